
/-
  The walk of the law BlockBuilds.
-/
import Derived.Test.YtcoicdaobgneeaaRefBCW
import Derived.Deep.RegionHeld3
import Derived.Deep.RegionWith
namespace Go.Proofs.Ytcoicdaobgneeaa
open Go.RowKit CodecP

theorem Bd.types {w : World} {p : Nat} {S : Nat → Prop} {ps : List Pr} (h : Bd w p S ps) {k : Nat} (hk : S k) : ∃ cs t, w.heap[k]? = some (.cells cs t (0, 0)) ∧ t ≠ 35 := by
  obtain ⟨vw, vr, h1, h2, h3, h4⟩ := h.ex
  rcases (h4 k).1 hk with rfl | hk | hk
  · exact ⟨_, _, h1, by decide⟩
  · obtain ⟨cs, hc⟩ := own_type h2 hk
    exact ⟨cs, _, hc, by decide⟩
  · obtain ⟨cs, hc⟩ := own_type h3 hk
    exact ⟨cs, _, hc, by decide⟩
theorem _root_.Go.RowKit.Below.undrew {B : Nat} {w w1 : World} (h : Below B w.drew w1) : Below B w w1 := ⟨h.os, h.tape, h.output, h.size, h.block⟩
/-- The builder, and the pairs beside it. -/
structure BN (w0 w : World) (p : Nat) (S : Nat → Prop) (ps : List Pr) (nv : Value) (qs : List Pr) : Prop where
  own : BOwn w0 w p S ps
  row : w.ownsRow w0.heap.size 35 2 nv qs.length (flatR qs)
section
variable {w0 w w' : World} {p : Nat} {S S' : Nat → Prop} {ps ps' qs qs' : List Pr} {nv nv' : Value}
theorem BN.apart (h : BN w0 w p S ps nv qs) {k : Nat} (hk : nv.ownBlock = some k) : ¬ S k := fun hS => by
  obtain ⟨cs, t, h1, h2⟩ := h.own.bd.types hS
  obtain ⟨cs2, h3⟩ := own_type h.row hk
  exact type_ne h1 h3 h2 rfl
theorem BN.below (h : BN w0 w p S ps nv qs) (hb : Below w.heap.size w w') : BN w0 w' p S ps nv qs := ⟨h.own.below hb, owns_of_block h.row (fun k hk => hb.block k (h.row.lt k hk).2)⟩
theorem BN.add (h : BN w0 w p S ps nv qs) (hb : Bd w' p S' ps') (hf : Fr S w w') (hs : ∀ k, S' k → S k ∨ w.heap.size ≤ k) : BN w0 w' p S' ps' nv qs :=
  ⟨h.own.add hb hf hs, owns_of_block h.row (fun k hk => hf.block k (h.row.lt k hk).2 (h.apart hk))⟩
theorem BN.append (h : BN w0 w p S ps nv qs) {o : Obj} (hg : (w.alloc o).grownBy w' nv.ownBlock) (hr : w'.ownsRow w0.heap.size 35 2 nv' qs'.length (flatR qs')) : BN w0 w' p S ps nv' qs' := by
  have hf : Fr (fun k => nv.ownBlock = some k) w w' := ((Fr.refl _ w).alloc o).grown hg (fun _ _ h => h)
  exact ⟨⟨h.own.bd.keep (fun k hk => hf.block k (h.own.bd.lt k hk) (fun e => h.apart e hk)), h.own.own, h.own.bel.trans (hf.below h.own.bel.size (fun k _ hk => (h.row.lt k hk).1))⟩, hr⟩
end
theorem cells2_new (w : World) (x y : Value) (t : TypeId) : ∀ j u, [x, y][j]? = some u → (w.alloc (.cells #[x, y] t)).cell? ((⟨w.heap.size, 0, none⟩ : Addr).add j) = some u := by
  intro j u hj
  match j, hj with
  | 0, hj => simp at hj; subst hj; simp [Addr.add]
  | 1, hj => simp at hj; subst hj; simp [Addr.add]
theorem two_one (a b : ByteArray) : ∀ u ∈ [Value.string a, Value.string b], u.oneCell' = true := by
  intro u hu
  rcases List.mem_cons.1 hu with rfl | hu
  · rfl
  · rw [List.mem_singleton.1 hu]; rfl
theorem takeH {P : Program} {md : Region.Mode} {ops : Array Oper} {Q : Exit → Act → World → Prop} {S : World → Prop} {i : Nat} {d : Option Tmp} {oi : Oper} {v : Value} {fuel : Nat} {listed : Array Bool} {a : Act} {w : World} (hi : ops[i]? = some oi) (hd : oi.dst = d)
    (hs : Region.noSelect ops = true) (hf : Region.free md ops listed i = true) (hr : (Region.ready md ops listed).contains i = true)
    (hQ : ∀ c a w, Q (.panic c) (a.put d v) w → Q (.panic c) a w) (hy : YieldsIf P ops S oi v a) (hS : S w)
    (h : wpAnyH P md ops Q S fuel (listed.setIfInBounds i true) (a.put d v) w) : wpAnyH P md ops Q S (fuel + 1) listed a w := by
  subst hd
  exact wpAnyH_take hi hs hf hr hQ hy hS h
/-- What an operation that didn't run yields. -/
theorem yl_undef : (match some undef with | some (Value.bool b) => some b | _ => none : Option Bool) = none := rfl
attribute [local go_sem] yl_undef
theorem info_prR : (Try.prog.info? 35).map (fun i => (i.zero, i.size, i.bytes)) = some (some (.agg #[.string ⟨#[]⟩, .string ⟨#[]⟩]), 2, 32) := by kernel_rfl
theorem PrsIn.own {w : World} {B : Nat} {v : Value} {L : List Pr} (h : w.ownsRow B 35 2 v L.length (flatR L)) (hl : ∀ p ∈ L, Okp p) : PrsIn w v L := by
  obtain ⟨A, cap, rfl⟩ := own_form h
  exact ⟨⟨A, cap, rfl, Sn.of_own h⟩, fun p hp => by obtain ⟨h1, h2, h3⟩ := hl p hp; unfold maxLen; omega⟩
theorem lastK_get (ps : List Pr) (h : 0 < ps.length) : lastK ps = (ps[ps.length - 1]'(by omega)).1 := by
  have := lastK_take ps ps.length h (Nat.le_refl _)
  rwa [List.take_length] at this
set_option maxRecDepth 100000 in
set_option maxHeartbeats 40000000 in
theorem blockBuilds_law (v : Value) (L : List Pr) (w : World) (h : PrsIn w v L) :
    Calls Try.prog 3 #[v] w fun e w' => e = .returned (.bool true) ∧ Below w.heap.size w w' := by
  obtain ⟨i0, hi, hz0, hz1, hz2⟩ := info_parts info_prR
  by_cases hG : Grt L
  · have HG := Lib.hid (great_any v L w h true ⟨fun _ => hG, fun _ => rfl⟩)
    have HA := Lib.hid awake_any
    clear h hG
    go_enter Try.func3, Try.ntmps3
    go_wp2_with fail
    (with_reducible refine HG.out.mono ?_)
    rintro e w1 ⟨rfl, hb1⟩
    go_wp2_with fail
    (with_reducible refine (HA.out _).mono ?_)
    rintro e w2 ⟨rfl, hb2⟩
    have HB := Lib.hid (hb1.trans (hb2.mono hb1.size))
    clear hb1 hb2
    go_wp2_with fail
    go_ret
    exact ⟨rfl, HB.out⟩
  · have HG := Lib.hid (great_any v L w h false ⟨(fun h => by cases h), fun h => absurd h hG⟩)
    have HA := Lib.hid awake_any
    have hl200 : L.length ≤ 200 := by unfold Grt at hG; omega
    have HC := Lib.hid (fun A n cap hv i hi => h.cells (A := A) (n := n) (cap := cap) hv (i := i) hi)
    have HLE := Lib.hid h.le
    obtain ⟨A, cap, hv, hs⟩ := h.ex
    subst hv
    have hcl := hs.le
    have hcm := hs.max
    unfold maxLen at hcm
    clear h hG hs
    go_enter Try.func3, Try.ntmps3
    go_wp2_with fail
    (with_reducible refine HG.out.mono ?_)
    rintro e w1 ⟨rfl, hb1⟩
    go_wp2_with fail
    (with_reducible refine (HA.out _).mono ?_)
    rintro e w2 ⟨rfl, hb2⟩
    have hB := hb1.trans (hb2.mono hb1.size)
    have HN := Lib.hid (BOwn.new hB)
    clear hb1 hb2 hB HG HA
    go_wp2_with fail
    generalize w2.alloc (.cells #[.slice none 0 0, .string ⟨#[]⟩, .int .i64 0, .slice none 0 0] 31) = w3 at *
    generalize w2.heap.size = p at *
    go_wp2_with fail
    go_loopg [4, 5] L.length (fun g nv iv wr => ∃ (i : Nat) (ps : List Pr) (S : Nat → Prop), i + g = L.length ∧ iv = .int .i64 i ∧ BN w wr p S ps nv ps ∧ ps.length ≤ i)
    case atStart => exact ⟨0, [], _, by omega, rfl, ⟨HN.out, World.ownsRow_nil _ _ _ _⟩, by simp⟩
    case round =>
      clear HN
      obtain ⟨i, ps, S, hig, rfl, hBN, hpi⟩ := hrel
      obtain ⟨ao, cp, hnv⟩ := own_form hBN.row
      subst hnv
      have HB := Lib.hid hBN
      clear hBN
      by_cases hlt : i < L.length
      · obtain ⟨bk, off, rfl, hc⟩ := HC.out _ _ _ rfl i hlt
        have hle := HLE.out L[i] (List.getElem_mem hlt)
        have HCW := Lib.hid (fun W hW => hc W hW i hlt)
        obtain ⟨c0, c1⟩ := hc wr HB.out.own.bel i hlt
        have e1 := str_size L[i].1
        have e2 := str_size L[i].2
        rw [← e1, ← e2] at hle
        obtain ⟨hk, hv⟩ := hle
        have hp : L[i] = (bl (str L[i].1), bl (str L[i].2)) := by rw [bl_str, bl_str]
        have hCd : ∃ C : Bool, (C = true ↔ (Okp L[i] ∧ lastK ps < L[i].1)) := ⟨@decide _ (Classical.propDecidable _), @decide_eq_true_iff _ (Classical.propDecidable _)⟩
        obtain ⟨C, hC⟩ := hCd
        have hOd : ∃ O : Bool, (O = true ↔ Okp L[i]) := ⟨decide (Okp L[i]), by simp⟩
        obtain ⟨O, hO⟩ := hOd
        rw [hp] at hC hO
        have HRT := Lib.hid (fun W => refRight_any (str L[i].1) (str L[i].2) W hk hv O hO)
        have gi : (i : Int) < (L.length : Int) := by omega
        have HP := Lib.hid hp
        have HCC := Lib.hid hC
        have HOO := Lib.hid hO
        clear hc e1 e2 hp hC hO
        generalize str L[i].1 = sk at *
        generalize str L[i].2 = sv at *
        generalize L[i] = pr at *
        have HE1 : Hid (pr = (bl sk, bl sv)) := HP
        have hdr : Below w.heap.size w wr.drew := HB.out.own.bel.drew
        obtain ⟨d0, d1⟩ := HCW.out _ hdr
        have hC1 := HCC.out
        have hO1 := HOO.out
        go_upto_region 9 with (fail)
        go_cut [49] (fun sv wx => sv = .bool (!C) ∧ Below wr.heap.size wr wx)
        case first =>
          cases O with
          | false =>
            have hCf : C = false := by
              cases C with
              | false => rfl
              | true => exact absurd (hO1.2 (hC1.1 rfl).1) (by simp)
            subst hCf
            clear hC1 hO1
            go_wp2_with fail
            refine wp_region_held_drew (S := (fun w' => w'.cell? ⟨bk, off + i * 2, none⟩ = some (.string sk) ∧ w'.cell? ⟨bk, off + i * 2 + 1, none⟩ = some (.string sv))) (by kernel_rfl) (by (try dsimp only); exact ⟨d0, d1⟩) (fun hHeld => ?_)
            refine takeH (i := 0) (d := some 24) (v := ?_) rfl rfl (by kernel_rfl) (by kernel_rfl) (by kernel_rfl) (fun _ _ _ h => h) (Or.inl ⟨by rfl, ?_⟩) (by assumption) ?_
            rotate_left
            · intro wS hSw; (try dsimp only at hSw); go_simp; (try (with_reducible rfl))
            simp only [Act.put, List.setIfInBounds_toArray, List.set_cons_zero, List.set_cons_succ]
            refine takeH (i := 1) (d := some 25) (v := ?_) rfl rfl (by kernel_rfl) (by kernel_rfl) (by kernel_rfl) (fun _ _ _ h => h) (Or.inl ⟨by rfl, ?_⟩) (by assumption) ?_
            rotate_left
            · intro wS hSw; (try dsimp only at hSw); go_simp; (try (with_reducible rfl))
            simp only [Act.put, List.setIfInBounds_toArray, List.set_cons_zero, List.set_cons_succ]
            refine takeH (i := 2) (d := some 26) (v := ?_) rfl rfl (by kernel_rfl) (by kernel_rfl) (by kernel_rfl) (fun _ _ _ h => h) (Or.inl ⟨by rfl, ?_⟩) (by assumption) ?_
            rotate_left
            · intro wS hSw; (try dsimp only at hSw); go_simp; (try (with_reducible rfl))
            simp only [Act.put, List.setIfInBounds_toArray, List.set_cons_zero, List.set_cons_succ]
            refine takeH (i := 3) (d := some 27) (v := ?_) rfl rfl (by kernel_rfl) (by kernel_rfl) (by kernel_rfl) (fun _ _ _ h => h) (Or.inl ⟨by rfl, ?_⟩) (by assumption) ?_
            rotate_left
            · intro wS hSw; (try dsimp only at hSw); go_simp; (try (with_reducible rfl))
            simp only [Act.put, List.setIfInBounds_toArray, List.set_cons_zero, List.set_cons_succ]
            refine wpAnyH_ready (rs := [4]) (by kernel_rfl) (by simp) ?_
            refine AllReadyH.cons rfl (fun K hK => ?_) AllReadyH.nil
            go_simp
            refine (HRT.out _).mono ?_
            rintro e w4 ⟨rfl, hb4⟩
            obtain ⟨k0, k1⟩ := HCW.out w4 (HB.out.own.bel.drew.trans (hb4.mono HB.out.own.bel.size))
            have HB4 := Lib.hid hb4
            clear hb4
            go_wp2_with fail
            refine hK.out _ _ (by (try dsimp only); exact ⟨k0, k1⟩) (fun hHeld => ?_)
            clear hK K
            refine takeH (i := 5) (d := some 29) (v := ?_) rfl rfl (by kernel_rfl) (by kernel_rfl) (by kernel_rfl) (fun _ _ _ h => h) (Or.inl ⟨by rfl, ?_⟩) (by assumption) ?_
            rotate_left
            · intro wS hSw; (try dsimp only at hSw); go_simp; (try (with_reducible rfl))
            simp only [Act.put, List.setIfInBounds_toArray, List.set_cons_zero, List.set_cons_succ]
            refine takeH (i := 6) (d := some 30) (v := ?_) rfl rfl (by kernel_rfl) (by kernel_rfl) (by kernel_rfl) (fun _ _ _ h => h) (Or.inl ⟨by rfl, ?_⟩) (by assumption) ?_
            rotate_left
            · intro wS hSw; (try dsimp only at hSw); go_simp; (try (with_reducible rfl))
            simp only [Act.put, List.setIfInBounds_toArray, List.set_cons_zero, List.set_cons_succ]
            refine takeH (i := 7) (d := some 31) (v := undef) rfl rfl (by kernel_rfl) (by kernel_rfl) (by kernel_rfl) (fun _ _ _ h => h) (Or.inr ⟨by rfl, rfl⟩) (by assumption) ?_
            simp only [Act.put, List.setIfInBounds_toArray, List.set_cons_zero, List.set_cons_succ]
            refine takeH (i := 8) (d := some 32) (v := undef) rfl rfl (by kernel_rfl) (by kernel_rfl) (by kernel_rfl) (fun _ _ _ h => h) (Or.inr ⟨by rfl, rfl⟩) (by assumption) ?_
            simp only [Act.put, List.setIfInBounds_toArray, List.set_cons_zero, List.set_cons_succ]
            refine takeH (i := 9) (d := some 33) (v := undef) rfl rfl (by kernel_rfl) (by kernel_rfl) (by kernel_rfl) (fun _ _ _ h => h) (Or.inr ⟨by rfl, rfl⟩) (by assumption) ?_
            simp only [Act.put, List.setIfInBounds_toArray, List.set_cons_zero, List.set_cons_succ]
            refine takeH (i := 10) (d := some 34) (v := undef) rfl rfl (by kernel_rfl) (by kernel_rfl) (by kernel_rfl) (fun _ _ _ h => h) (Or.inr ⟨by rfl, rfl⟩) (by assumption) ?_
            simp only [Act.put, List.setIfInBounds_toArray, List.set_cons_zero, List.set_cons_succ]
            refine takeH (i := 11) (d := some 35) (v := undef) rfl rfl (by kernel_rfl) (by kernel_rfl) (by kernel_rfl) (fun _ _ _ h => h) (Or.inr ⟨by rfl, rfl⟩) (by assumption) ?_
            simp only [Act.put, List.setIfInBounds_toArray, List.set_cons_zero, List.set_cons_succ]
            refine takeH (i := 12) (d := some 36) (v := undef) rfl rfl (by kernel_rfl) (by kernel_rfl) (by kernel_rfl) (fun _ _ _ h => h) (Or.inr ⟨by rfl, rfl⟩) (by assumption) ?_
            simp only [Act.put, List.setIfInBounds_toArray, List.set_cons_zero, List.set_cons_succ]
            refine takeH (i := 13) (d := some 37) (v := undef) rfl rfl (by kernel_rfl) (by kernel_rfl) (by kernel_rfl) (fun _ _ _ h => h) (Or.inr ⟨by rfl, rfl⟩) (by assumption) ?_
            simp only [Act.put, List.setIfInBounds_toArray, List.set_cons_zero, List.set_cons_succ]
            refine takeH (i := 14) (d := some 38) (v := undef) rfl rfl (by kernel_rfl) (by kernel_rfl) (by kernel_rfl) (fun _ _ _ h => h) (Or.inr ⟨by rfl, rfl⟩) (by assumption) ?_
            simp only [Act.put, List.setIfInBounds_toArray, List.set_cons_zero, List.set_cons_succ]
            refine takeH (i := 15) (d := some 39) (v := undef) rfl rfl (by kernel_rfl) (by kernel_rfl) (by kernel_rfl) (fun _ _ _ h => h) (Or.inr ⟨by rfl, rfl⟩) (by assumption) ?_
            simp only [Act.put, List.setIfInBounds_toArray, List.set_cons_zero, List.set_cons_succ]
            refine takeH (i := 16) (d := some 40) (v := undef) rfl rfl (by kernel_rfl) (by kernel_rfl) (by kernel_rfl) (fun _ _ _ h => h) (Or.inr ⟨by rfl, rfl⟩) (by assumption) ?_
            simp only [Act.put, List.setIfInBounds_toArray, List.set_cons_zero, List.set_cons_succ]
            refine takeH (i := 17) (d := some 41) (v := undef) rfl rfl (by kernel_rfl) (by kernel_rfl) (by kernel_rfl) (fun _ _ _ h => h) (Or.inr ⟨by rfl, rfl⟩) (by assumption) ?_
            simp only [Act.put, List.setIfInBounds_toArray, List.set_cons_zero, List.set_cons_succ]
            refine takeH (i := 18) (d := some 42) (v := undef) rfl rfl (by kernel_rfl) (by kernel_rfl) (by kernel_rfl) (fun _ _ _ h => h) (Or.inr ⟨by rfl, rfl⟩) (by assumption) ?_
            simp only [Act.put, List.setIfInBounds_toArray, List.set_cons_zero, List.set_cons_succ]
            refine takeH (i := 19) (d := some 43) (v := undef) rfl rfl (by kernel_rfl) (by kernel_rfl) (by kernel_rfl) (fun _ _ _ h => h) (Or.inr ⟨by rfl, rfl⟩) (by assumption) ?_
            simp only [Act.put, List.setIfInBounds_toArray, List.set_cons_zero, List.set_cons_succ]
            refine takeH (i := 20) (d := some 44) (v := undef) rfl rfl (by kernel_rfl) (by kernel_rfl) (by kernel_rfl) (fun _ _ _ h => h) (Or.inr ⟨by rfl, rfl⟩) (by assumption) ?_
            simp only [Act.put, List.setIfInBounds_toArray, List.set_cons_zero, List.set_cons_succ]
            refine takeH (i := 21) (d := some 45) (v := undef) rfl rfl (by kernel_rfl) (by kernel_rfl) (by kernel_rfl) (fun _ _ _ h => h) (Or.inr ⟨by rfl, rfl⟩) (by assumption) ?_
            simp only [Act.put, List.setIfInBounds_toArray, List.set_cons_zero, List.set_cons_succ]
            refine takeH (i := 22) (d := some 46) (v := undef) rfl rfl (by kernel_rfl) (by kernel_rfl) (by kernel_rfl) (fun _ _ _ h => h) (Or.inr ⟨by rfl, rfl⟩) (by assumption) ?_
            simp only [Act.put, List.setIfInBounds_toArray, List.set_cons_zero, List.set_cons_succ]
            refine takeH (i := 23) (d := some 47) (v := undef) rfl rfl (by kernel_rfl) (by kernel_rfl) (by kernel_rfl) (fun _ _ _ h => h) (Or.inr ⟨by rfl, rfl⟩) (by assumption) ?_
            simp only [Act.put, List.setIfInBounds_toArray, List.set_cons_zero, List.set_cons_succ]
            refine takeH (i := 24) (d := some 48) (v := undef) rfl rfl (by kernel_rfl) (by kernel_rfl) (by kernel_rfl) (fun _ _ _ h => h) (Or.inr ⟨by rfl, rfl⟩) (by assumption) ?_
            simp only [Act.put, List.setIfInBounds_toArray, List.set_cons_zero, List.set_cons_succ]
            refine takeH (i := 25) (d := some 49) (v := ?_) rfl rfl (by kernel_rfl) (by kernel_rfl) (by kernel_rfl) (fun _ _ _ h => h) (Or.inl ⟨by rfl, ?_⟩) (by assumption) ?_
            rotate_left
            · intro wS hSw; (try dsimp only at hSw); go_simp; (try (with_reducible rfl))
            simp only [Act.put, List.setIfInBounds_toArray, List.set_cons_zero, List.set_cons_succ]
            refine wpAnyH_done (by kernel_rfl) ?_ _
            go_wp2_with fail
            go_meet
            case rel => exact ⟨rfl, HB4.out.undrew⟩
          | true =>
            have hok := hO1.1 rfl
            rcases Nat.eq_zero_or_pos ps.length with h0 | h0
            · obtain rfl := List.length_eq_zero_iff.1 h0
              have hCf : C = true := hC1.2 ⟨hok, by
                have := hok.1
                show [] < bl sk
                cases hsk : bl sk with
                | nil => rw [hsk] at this; simp at this
                | cons a l => exact List.nil_lt_cons a l⟩
              subst hCf
              clear hC1 hO1 hok h0
              go_wp2_with fail
              refine wp_region_held_drew (S := (fun w' => w'.cell? ⟨bk, off + i * 2, none⟩ = some (.string sk) ∧ w'.cell? ⟨bk, off + i * 2 + 1, none⟩ = some (.string sv))) (by kernel_rfl) (by (try dsimp only); exact ⟨d0, d1⟩) (fun hHeld => ?_)
              refine takeH (i := 0) (d := some 24) (v := ?_) rfl rfl (by kernel_rfl) (by kernel_rfl) (by kernel_rfl) (fun _ _ _ h => h) (Or.inl ⟨by rfl, ?_⟩) (by assumption) ?_
              rotate_left
              · intro wS hSw; (try dsimp only at hSw); go_simp; (try (with_reducible rfl))
              simp only [Act.put, List.setIfInBounds_toArray, List.set_cons_zero, List.set_cons_succ]
              refine takeH (i := 1) (d := some 25) (v := ?_) rfl rfl (by kernel_rfl) (by kernel_rfl) (by kernel_rfl) (fun _ _ _ h => h) (Or.inl ⟨by rfl, ?_⟩) (by assumption) ?_
              rotate_left
              · intro wS hSw; (try dsimp only at hSw); go_simp; (try (with_reducible rfl))
              simp only [Act.put, List.setIfInBounds_toArray, List.set_cons_zero, List.set_cons_succ]
              refine takeH (i := 2) (d := some 26) (v := ?_) rfl rfl (by kernel_rfl) (by kernel_rfl) (by kernel_rfl) (fun _ _ _ h => h) (Or.inl ⟨by rfl, ?_⟩) (by assumption) ?_
              rotate_left
              · intro wS hSw; (try dsimp only at hSw); go_simp; (try (with_reducible rfl))
              simp only [Act.put, List.setIfInBounds_toArray, List.set_cons_zero, List.set_cons_succ]
              refine takeH (i := 3) (d := some 27) (v := ?_) rfl rfl (by kernel_rfl) (by kernel_rfl) (by kernel_rfl) (fun _ _ _ h => h) (Or.inl ⟨by rfl, ?_⟩) (by assumption) ?_
              rotate_left
              · intro wS hSw; (try dsimp only at hSw); go_simp; (try (with_reducible rfl))
              simp only [Act.put, List.setIfInBounds_toArray, List.set_cons_zero, List.set_cons_succ]
              refine wpAnyH_ready (rs := [4]) (by kernel_rfl) (by simp) ?_
              refine AllReadyH.cons rfl (fun K hK => ?_) AllReadyH.nil
              go_simp
              refine (HRT.out _).mono ?_
              rintro e w4 ⟨rfl, hb4⟩
              obtain ⟨k0, k1⟩ := HCW.out w4 (HB.out.own.bel.drew.trans (hb4.mono HB.out.own.bel.size))
              have HB4 := Lib.hid hb4
              clear hb4
              go_wp2_with fail
              refine hK.out _ _ (by (try dsimp only); exact ⟨k0, k1⟩) (fun hHeld => ?_)
              clear hK K
              refine takeH (i := 5) (d := some 29) (v := ?_) rfl rfl (by kernel_rfl) (by kernel_rfl) (by kernel_rfl) (fun _ _ _ h => h) (Or.inl ⟨by rfl, ?_⟩) (by assumption) ?_
              rotate_left
              · intro wS hSw; (try dsimp only at hSw); go_simp; (try (with_reducible rfl))
              simp only [Act.put, List.setIfInBounds_toArray, List.set_cons_zero, List.set_cons_succ]
              refine takeH (i := 6) (d := some 30) (v := ?_) rfl rfl (by kernel_rfl) (by kernel_rfl) (by kernel_rfl) (fun _ _ _ h => h) (Or.inl ⟨by rfl, ?_⟩) (by assumption) ?_
              rotate_left
              · intro wS hSw; (try dsimp only at hSw); go_simp; (try (with_reducible rfl))
              simp only [Act.put, List.setIfInBounds_toArray, List.set_cons_zero, List.set_cons_succ]
              refine takeH (i := 7) (d := some 31) (v := ?_) rfl rfl (by kernel_rfl) (by kernel_rfl) (by kernel_rfl) (fun _ _ _ h => h) (Or.inl ⟨by rfl, ?_⟩) (by assumption) ?_
              rotate_left
              · intro wS hSw; (try dsimp only at hSw); go_simp; (try (with_reducible rfl))
              simp only [Act.put, List.setIfInBounds_toArray, List.set_cons_zero, List.set_cons_succ]
              refine takeH (i := 8) (d := some 32) (v := ?_) rfl rfl (by kernel_rfl) (by kernel_rfl) (by kernel_rfl) (fun _ _ _ h => h) (Or.inl ⟨by rfl, ?_⟩) (by assumption) ?_
              rotate_left
              · intro wS hSw; (try dsimp only at hSw); go_simp; (try (with_reducible rfl))
              simp only [Act.put, List.setIfInBounds_toArray, List.set_cons_zero, List.set_cons_succ]
              refine takeH (i := 9) (d := some 33) (v := ?_) rfl rfl (by kernel_rfl) (by kernel_rfl) (by kernel_rfl) (fun _ _ _ h => h) (Or.inl ⟨by rfl, ?_⟩) (by assumption) ?_
              rotate_left
              · intro wS hSw; (try dsimp only at hSw); go_simp; (try (with_reducible rfl))
              simp only [Act.put, List.setIfInBounds_toArray, List.set_cons_zero, List.set_cons_succ]
              refine takeH (i := 10) (d := some 34) (v := ?_) rfl rfl (by kernel_rfl) (by kernel_rfl) (by kernel_rfl) (fun _ _ _ h => h) (Or.inl ⟨by rfl, ?_⟩) (by assumption) ?_
              rotate_left
              · intro wS hSw; (try dsimp only at hSw); go_simp; (try (with_reducible rfl))
              simp only [Act.put, List.setIfInBounds_toArray, List.set_cons_zero, List.set_cons_succ]
              refine takeH (i := 11) (d := some 35) (v := undef) rfl rfl (by kernel_rfl) (by kernel_rfl) (by kernel_rfl) (fun _ _ _ h => h) (Or.inr ⟨by rfl, rfl⟩) (by assumption) ?_
              simp only [Act.put, List.setIfInBounds_toArray, List.set_cons_zero, List.set_cons_succ]
              refine takeH (i := 12) (d := some 36) (v := undef) rfl rfl (by kernel_rfl) (by kernel_rfl) (by kernel_rfl) (fun _ _ _ h => h) (Or.inr ⟨by rfl, rfl⟩) (by assumption) ?_
              simp only [Act.put, List.setIfInBounds_toArray, List.set_cons_zero, List.set_cons_succ]
              refine takeH (i := 13) (d := some 37) (v := undef) rfl rfl (by kernel_rfl) (by kernel_rfl) (by kernel_rfl) (fun _ _ _ h => h) (Or.inr ⟨by rfl, rfl⟩) (by assumption) ?_
              simp only [Act.put, List.setIfInBounds_toArray, List.set_cons_zero, List.set_cons_succ]
              refine takeH (i := 14) (d := some 38) (v := undef) rfl rfl (by kernel_rfl) (by kernel_rfl) (by kernel_rfl) (fun _ _ _ h => h) (Or.inr ⟨by rfl, rfl⟩) (by assumption) ?_
              simp only [Act.put, List.setIfInBounds_toArray, List.set_cons_zero, List.set_cons_succ]
              refine takeH (i := 15) (d := some 39) (v := undef) rfl rfl (by kernel_rfl) (by kernel_rfl) (by kernel_rfl) (fun _ _ _ h => h) (Or.inr ⟨by rfl, rfl⟩) (by assumption) ?_
              simp only [Act.put, List.setIfInBounds_toArray, List.set_cons_zero, List.set_cons_succ]
              refine takeH (i := 16) (d := some 40) (v := undef) rfl rfl (by kernel_rfl) (by kernel_rfl) (by kernel_rfl) (fun _ _ _ h => h) (Or.inr ⟨by rfl, rfl⟩) (by assumption) ?_
              simp only [Act.put, List.setIfInBounds_toArray, List.set_cons_zero, List.set_cons_succ]
              refine takeH (i := 17) (d := some 41) (v := undef) rfl rfl (by kernel_rfl) (by kernel_rfl) (by kernel_rfl) (fun _ _ _ h => h) (Or.inr ⟨by rfl, rfl⟩) (by assumption) ?_
              simp only [Act.put, List.setIfInBounds_toArray, List.set_cons_zero, List.set_cons_succ]
              refine takeH (i := 18) (d := some 42) (v := undef) rfl rfl (by kernel_rfl) (by kernel_rfl) (by kernel_rfl) (fun _ _ _ h => h) (Or.inr ⟨by rfl, rfl⟩) (by assumption) ?_
              simp only [Act.put, List.setIfInBounds_toArray, List.set_cons_zero, List.set_cons_succ]
              refine takeH (i := 19) (d := some 43) (v := undef) rfl rfl (by kernel_rfl) (by kernel_rfl) (by kernel_rfl) (fun _ _ _ h => h) (Or.inr ⟨by rfl, rfl⟩) (by assumption) ?_
              simp only [Act.put, List.setIfInBounds_toArray, List.set_cons_zero, List.set_cons_succ]
              refine takeH (i := 20) (d := some 44) (v := undef) rfl rfl (by kernel_rfl) (by kernel_rfl) (by kernel_rfl) (fun _ _ _ h => h) (Or.inr ⟨by rfl, rfl⟩) (by assumption) ?_
              simp only [Act.put, List.setIfInBounds_toArray, List.set_cons_zero, List.set_cons_succ]
              refine takeH (i := 21) (d := some 45) (v := undef) rfl rfl (by kernel_rfl) (by kernel_rfl) (by kernel_rfl) (fun _ _ _ h => h) (Or.inr ⟨by rfl, rfl⟩) (by assumption) ?_
              simp only [Act.put, List.setIfInBounds_toArray, List.set_cons_zero, List.set_cons_succ]
              refine takeH (i := 22) (d := some 46) (v := undef) rfl rfl (by kernel_rfl) (by kernel_rfl) (by kernel_rfl) (fun _ _ _ h => h) (Or.inr ⟨by rfl, rfl⟩) (by assumption) ?_
              simp only [Act.put, List.setIfInBounds_toArray, List.set_cons_zero, List.set_cons_succ]
              refine takeH (i := 23) (d := some 47) (v := undef) rfl rfl (by kernel_rfl) (by kernel_rfl) (by kernel_rfl) (fun _ _ _ h => h) (Or.inr ⟨by rfl, rfl⟩) (by assumption) ?_
              simp only [Act.put, List.setIfInBounds_toArray, List.set_cons_zero, List.set_cons_succ]
              refine takeH (i := 24) (d := some 48) (v := ?_) rfl rfl (by kernel_rfl) (by kernel_rfl) (by kernel_rfl) (fun _ _ _ h => h) (Or.inl ⟨by rfl, ?_⟩) (by assumption) ?_
              rotate_left
              · intro wS hSw; (try dsimp only at hSw); go_simp; (try (with_reducible rfl))
              simp only [Act.put, List.setIfInBounds_toArray, List.set_cons_zero, List.set_cons_succ]
              refine takeH (i := 25) (d := some 49) (v := ?_) rfl rfl (by kernel_rfl) (by kernel_rfl) (by kernel_rfl) (fun _ _ _ h => h) (Or.inl ⟨by rfl, ?_⟩) (by assumption) ?_
              rotate_left
              · intro wS hSw; (try dsimp only at hSw); go_simp; (try (with_reducible rfl))
              simp only [Act.put, List.setIfInBounds_toArray, List.set_cons_zero, List.set_cons_succ]
              refine wpAnyH_done (by kernel_rfl) ?_ _
              go_wp2_with fail
              go_meet
              case rel => exact ⟨rfl, HB4.out.undrew⟩
            · have hlk := lastK_get ps h0
              obtain ⟨g6, cp6, hv6, _, hg6, hc6, hm6, hcell6⟩ := own_pos HB.out.row h0
              injection hv6 with hv6 _ hv6'
              subst hv6 hv6'
              unfold maxLen at hm6
              have hn := hcell6 _ _ (flatR_get ps (ps.length - 1) (by omega)).1
              rw [← hlk] at hn
              have HCN := Lib.hid (fun W (hW : Below wr.heap.size wr W) => show W.cell? ⟨g6, (ps.length - 1) * 2, none⟩ = some (.string (str (lastK ps))) from by
                rw [hW.cell (p := ⟨g6, (ps.length - 1) * 2, none⟩) hg6]; exact hn)
              have s3 : IntKind.i64.wrap ((ps.length : Int) - 1) = (ps.length : Int) - 1 := IntWalk.i64_in _ (by omega)
              have s4 : ((ps.length : Int) - 1).toNat = ps.length - 1 := by omega
              have s5 : (0 : Int) ≤ (ps.length : Int) - 1 := by omega
              have s6 : (ps.length : Int) - 1 < (ps.length : Int) := by omega
              have s7 : (1 : Int) ≤ (ps.length : Int) := by omega
              have g0 : decide ((0 : Int) < (ps.length : Int)) = true := by rw [decide_eq_true_eq]; omega
              have g0' : 0 < ps.length := h0
              cases C with
              | true =>
                obtain ⟨q1, q2⟩ := leq_no (a := sk) (b := str (lastK ps)) (by rw [bl_str]; exact (hC1.1 rfl).2)
                have d2 : wr.drew.cell? ⟨g6, (ps.length - 1) * 2, none⟩ = some (.string (str (lastK ps))) := HCN.out _ (Below.refl _ _).drew
                clear hC1 hO1 hok hcell6 hlk h0
                generalize str (lastK ps) = ls at *
                go_wp2_with fail
                refine wp_region_held_drew (S := (fun w' => w'.cell? ⟨bk, off + i * 2, none⟩ = some (.string sk) ∧ w'.cell? ⟨bk, off + i * 2 + 1, none⟩ = some (.string sv) ∧ w'.cell? ⟨g6, (ps.length - 1) * 2, none⟩ = some (.string ls))) (by kernel_rfl) (by (try dsimp only); exact ⟨d0, d1, d2⟩) (fun hHeld => ?_)
                refine takeH (i := 0) (d := some 24) (v := ?_) rfl rfl (by kernel_rfl) (by kernel_rfl) (by kernel_rfl) (fun _ _ _ h => h) (Or.inl ⟨by rfl, ?_⟩) (by assumption) ?_
                rotate_left
                · intro wS hSw; (try dsimp only at hSw); go_simp; (try (with_reducible rfl))
                simp only [Act.put, List.setIfInBounds_toArray, List.set_cons_zero, List.set_cons_succ]
                refine takeH (i := 1) (d := some 25) (v := ?_) rfl rfl (by kernel_rfl) (by kernel_rfl) (by kernel_rfl) (fun _ _ _ h => h) (Or.inl ⟨by rfl, ?_⟩) (by assumption) ?_
                rotate_left
                · intro wS hSw; (try dsimp only at hSw); go_simp; (try (with_reducible rfl))
                simp only [Act.put, List.setIfInBounds_toArray, List.set_cons_zero, List.set_cons_succ]
                refine takeH (i := 2) (d := some 26) (v := ?_) rfl rfl (by kernel_rfl) (by kernel_rfl) (by kernel_rfl) (fun _ _ _ h => h) (Or.inl ⟨by rfl, ?_⟩) (by assumption) ?_
                rotate_left
                · intro wS hSw; (try dsimp only at hSw); go_simp; (try (with_reducible rfl))
                simp only [Act.put, List.setIfInBounds_toArray, List.set_cons_zero, List.set_cons_succ]
                refine takeH (i := 3) (d := some 27) (v := ?_) rfl rfl (by kernel_rfl) (by kernel_rfl) (by kernel_rfl) (fun _ _ _ h => h) (Or.inl ⟨by rfl, ?_⟩) (by assumption) ?_
                rotate_left
                · intro wS hSw; (try dsimp only at hSw); go_simp; (try (with_reducible rfl))
                simp only [Act.put, List.setIfInBounds_toArray, List.set_cons_zero, List.set_cons_succ]
                refine wpAnyH_ready (rs := [4]) (by kernel_rfl) (by simp) ?_
                refine AllReadyH.cons rfl (fun K hK => ?_) AllReadyH.nil
                go_simp
                refine (HRT.out _).mono ?_
                rintro e w4 ⟨rfl, hb4⟩
                obtain ⟨k0, k1⟩ := HCW.out w4 (HB.out.own.bel.drew.trans (hb4.mono HB.out.own.bel.size))
                have k2 := HCN.out w4 hb4.undrew
                have HB4 := Lib.hid hb4
                clear hb4
                go_wp2_with fail
                refine hK.out _ _ (by (try dsimp only); exact ⟨k0, k1, k2⟩) (fun hHeld => ?_)
                clear hK K
                refine takeH (i := 5) (d := some 29) (v := ?_) rfl rfl (by kernel_rfl) (by kernel_rfl) (by kernel_rfl) (fun _ _ _ h => h) (Or.inl ⟨by rfl, ?_⟩) (by assumption) ?_
                rotate_left
                · intro wS hSw; (try dsimp only at hSw); go_simp; (try (with_reducible rfl))
                simp only [Act.put, List.setIfInBounds_toArray, List.set_cons_zero, List.set_cons_succ]
                refine takeH (i := 6) (d := some 30) (v := ?_) rfl rfl (by kernel_rfl) (by kernel_rfl) (by kernel_rfl) (fun _ _ _ h => h) (Or.inl ⟨by rfl, ?_⟩) (by assumption) ?_
                rotate_left
                · intro wS hSw; (try dsimp only at hSw); go_simp; (try (with_reducible rfl))
                simp only [Act.put, List.setIfInBounds_toArray, List.set_cons_zero, List.set_cons_succ]
                refine takeH (i := 7) (d := some 31) (v := ?_) rfl rfl (by kernel_rfl) (by kernel_rfl) (by kernel_rfl) (fun _ _ _ h => h) (Or.inl ⟨by rfl, ?_⟩) (by assumption) ?_
                rotate_left
                · intro wS hSw; (try dsimp only at hSw); go_simp; (try (with_reducible rfl))
                simp only [Act.put, List.setIfInBounds_toArray, List.set_cons_zero, List.set_cons_succ]
                refine takeH (i := 8) (d := some 32) (v := ?_) rfl rfl (by kernel_rfl) (by kernel_rfl) (by kernel_rfl) (fun _ _ _ h => h) (Or.inl ⟨by rfl, ?_⟩) (by assumption) ?_
                rotate_left
                · intro wS hSw; (try dsimp only at hSw); go_simp; (try (with_reducible rfl))
                simp only [Act.put, List.setIfInBounds_toArray, List.set_cons_zero, List.set_cons_succ]
                refine takeH (i := 9) (d := some 33) (v := ?_) rfl rfl (by kernel_rfl) (by kernel_rfl) (by kernel_rfl) (fun _ _ _ h => h) (Or.inl ⟨by rfl, ?_⟩) (by assumption) ?_
                rotate_left
                · intro wS hSw; (try dsimp only at hSw); go_simp; (try (with_reducible rfl))
                simp only [Act.put, List.setIfInBounds_toArray, List.set_cons_zero, List.set_cons_succ]
                refine takeH (i := 10) (d := some 34) (v := ?_) rfl rfl (by kernel_rfl) (by kernel_rfl) (by kernel_rfl) (fun _ _ _ h => h) (Or.inl ⟨by rfl, ?_⟩) (by assumption) ?_
                rotate_left
                · intro wS hSw; (try dsimp only at hSw); go_simp; (try (with_reducible rfl))
                simp only [Act.put, List.setIfInBounds_toArray, List.set_cons_zero, List.set_cons_succ]
                refine takeH (i := 11) (d := some 35) (v := ?_) rfl rfl (by kernel_rfl) (by kernel_rfl) (by kernel_rfl) (fun _ _ _ h => h) (Or.inl ⟨by rfl, ?_⟩) (by assumption) ?_
                rotate_left
                · intro wS hSw; (try dsimp only at hSw); go_simp; (try (with_reducible rfl))
                simp only [Act.put, List.setIfInBounds_toArray, List.set_cons_zero, List.set_cons_succ]
                refine takeH (i := 12) (d := some 36) (v := ?_) rfl rfl (by kernel_rfl) (by kernel_rfl) (by kernel_rfl) (fun _ _ _ h => h) (Or.inl ⟨by rfl, ?_⟩) (by assumption) ?_
                rotate_left
                · intro wS hSw; (try dsimp only at hSw); go_simp; (try (with_reducible rfl))
                simp only [Act.put, List.setIfInBounds_toArray, List.set_cons_zero, List.set_cons_succ]
                refine takeH (i := 13) (d := some 37) (v := ?_) rfl rfl (by kernel_rfl) (by kernel_rfl) (by kernel_rfl) (fun _ _ _ h => h) (Or.inl ⟨by rfl, ?_⟩) (by assumption) ?_
                rotate_left
                · intro wS hSw; (try dsimp only at hSw); go_simp; (try (with_reducible rfl))
                simp only [Act.put, List.setIfInBounds_toArray, List.set_cons_zero, List.set_cons_succ]
                refine takeH (i := 14) (d := some 38) (v := ?_) rfl rfl (by kernel_rfl) (by kernel_rfl) (by kernel_rfl) (fun _ _ _ h => h) (Or.inl ⟨by rfl, ?_⟩) (by assumption) ?_
                rotate_left
                · intro wS hSw; (try dsimp only at hSw); go_simp; (try (with_reducible rfl))
                simp only [Act.put, List.setIfInBounds_toArray, List.set_cons_zero, List.set_cons_succ]
                refine takeH (i := 15) (d := some 39) (v := ?_) rfl rfl (by kernel_rfl) (by kernel_rfl) (by kernel_rfl) (fun _ _ _ h => h) (Or.inl ⟨by rfl, ?_⟩) (by assumption) ?_
                rotate_left
                · intro wS hSw; (try dsimp only at hSw); go_simp; (try (with_reducible rfl))
                simp only [Act.put, List.setIfInBounds_toArray, List.set_cons_zero, List.set_cons_succ]
                refine takeH (i := 16) (d := some 40) (v := ?_) rfl rfl (by kernel_rfl) (by kernel_rfl) (by kernel_rfl) (fun _ _ _ h => h) (Or.inl ⟨by rfl, ?_⟩) (by assumption) ?_
                rotate_left
                · intro wS hSw; (try dsimp only at hSw); go_simp; (try (with_reducible rfl))
                simp only [Act.put, List.setIfInBounds_toArray, List.set_cons_zero, List.set_cons_succ]
                refine takeH (i := 17) (d := some 41) (v := ?_) rfl rfl (by kernel_rfl) (by kernel_rfl) (by kernel_rfl) (fun _ _ _ h => h) (Or.inl ⟨by rfl, ?_⟩) (by assumption) ?_
                rotate_left
                · intro wS hSw; (try dsimp only at hSw); go_simp; (try (with_reducible rfl))
                simp only [Act.put, List.setIfInBounds_toArray, List.set_cons_zero, List.set_cons_succ]
                refine takeH (i := 18) (d := some 42) (v := ?_) rfl rfl (by kernel_rfl) (by kernel_rfl) (by kernel_rfl) (fun _ _ _ h => h) (Or.inl ⟨by rfl, ?_⟩) (by assumption) ?_
                rotate_left
                · intro wS hSw; (try dsimp only at hSw); go_simp; (try (with_reducible rfl))
                simp only [Act.put, List.setIfInBounds_toArray, List.set_cons_zero, List.set_cons_succ]
                refine takeH (i := 19) (d := some 43) (v := ?_) rfl rfl (by kernel_rfl) (by kernel_rfl) (by kernel_rfl) (fun _ _ _ h => h) (Or.inl ⟨by rfl, ?_⟩) (by assumption) ?_
                rotate_left
                · intro wS hSw; (try dsimp only at hSw); go_simp; (try (with_reducible rfl))
                simp only [Act.put, List.setIfInBounds_toArray, List.set_cons_zero, List.set_cons_succ]
                refine takeH (i := 20) (d := some 44) (v := ?_) rfl rfl (by kernel_rfl) (by kernel_rfl) (by kernel_rfl) (fun _ _ _ h => h) (Or.inl ⟨by rfl, ?_⟩) (by assumption) ?_
                rotate_left
                · intro wS hSw; (try dsimp only at hSw); go_simp; (try (with_reducible rfl))
                simp only [Act.put, List.setIfInBounds_toArray, List.set_cons_zero, List.set_cons_succ]
                refine takeH (i := 21) (d := some 45) (v := ?_) rfl rfl (by kernel_rfl) (by kernel_rfl) (by kernel_rfl) (fun _ _ _ h => h) (Or.inl ⟨by rfl, ?_⟩) (by assumption) ?_
                rotate_left
                · intro wS hSw; (try dsimp only at hSw); go_simp; (try (with_reducible rfl))
                simp only [Act.put, List.setIfInBounds_toArray, List.set_cons_zero, List.set_cons_succ]
                refine takeH (i := 22) (d := some 46) (v := ?_) rfl rfl (by kernel_rfl) (by kernel_rfl) (by kernel_rfl) (fun _ _ _ h => h) (Or.inl ⟨by rfl, ?_⟩) (by assumption) ?_
                rotate_left
                · intro wS hSw; (try dsimp only at hSw); go_simp; (try (with_reducible rfl))
                simp only [Act.put, List.setIfInBounds_toArray, List.set_cons_zero, List.set_cons_succ]
                refine takeH (i := 23) (d := some 47) (v := ?_) rfl rfl (by kernel_rfl) (by kernel_rfl) (by kernel_rfl) (fun _ _ _ h => h) (Or.inl ⟨by rfl, ?_⟩) (by assumption) ?_
                rotate_left
                · intro wS hSw; (try dsimp only at hSw); go_simp; (try (with_reducible rfl))
                simp only [Act.put, List.setIfInBounds_toArray, List.set_cons_zero, List.set_cons_succ]
                refine takeH (i := 24) (d := some 48) (v := ?_) rfl rfl (by kernel_rfl) (by kernel_rfl) (by kernel_rfl) (fun _ _ _ h => h) (Or.inl ⟨by rfl, ?_⟩) (by assumption) ?_
                rotate_left
                · intro wS hSw; (try dsimp only at hSw); go_simp; (try (with_reducible rfl))
                simp only [Act.put, List.setIfInBounds_toArray, List.set_cons_zero, List.set_cons_succ]
                refine takeH (i := 25) (d := some 49) (v := ?_) rfl rfl (by kernel_rfl) (by kernel_rfl) (by kernel_rfl) (fun _ _ _ h => h) (Or.inl ⟨by rfl, ?_⟩) (by assumption) ?_
                rotate_left
                · intro wS hSw; (try dsimp only at hSw); go_simp; (try (with_reducible rfl))
                simp only [Act.put, List.setIfInBounds_toArray, List.set_cons_zero, List.set_cons_succ]
                refine wpAnyH_done (by kernel_rfl) ?_ _
                go_wp2_with fail
                go_meet
                case rel => exact ⟨rfl, HB4.out.undrew⟩
              | false =>
                have q1 := leq_yes (a := sk) (b := str (lastK ps)) (by rw [bl_str]; intro hh; have := hC1.2 ⟨hok, hh⟩; cases this)
                have d2 : wr.drew.cell? ⟨g6, (ps.length - 1) * 2, none⟩ = some (.string (str (lastK ps))) := HCN.out _ (Below.refl _ _).drew
                clear hC1 hO1 hok hcell6 hlk h0
                generalize str (lastK ps) = ls at *
                go_wp2_with fail
                refine wp_region_held_drew (S := (fun w' => w'.cell? ⟨bk, off + i * 2, none⟩ = some (.string sk) ∧ w'.cell? ⟨bk, off + i * 2 + 1, none⟩ = some (.string sv) ∧ w'.cell? ⟨g6, (ps.length - 1) * 2, none⟩ = some (.string ls))) (by kernel_rfl) (by (try dsimp only); exact ⟨d0, d1, d2⟩) (fun hHeld => ?_)
                refine takeH (i := 0) (d := some 24) (v := ?_) rfl rfl (by kernel_rfl) (by kernel_rfl) (by kernel_rfl) (fun _ _ _ h => h) (Or.inl ⟨by rfl, ?_⟩) (by assumption) ?_
                rotate_left
                · intro wS hSw; (try dsimp only at hSw); go_simp; (try (with_reducible rfl))
                simp only [Act.put, List.setIfInBounds_toArray, List.set_cons_zero, List.set_cons_succ]
                refine takeH (i := 1) (d := some 25) (v := ?_) rfl rfl (by kernel_rfl) (by kernel_rfl) (by kernel_rfl) (fun _ _ _ h => h) (Or.inl ⟨by rfl, ?_⟩) (by assumption) ?_
                rotate_left
                · intro wS hSw; (try dsimp only at hSw); go_simp; (try (with_reducible rfl))
                simp only [Act.put, List.setIfInBounds_toArray, List.set_cons_zero, List.set_cons_succ]
                refine takeH (i := 2) (d := some 26) (v := ?_) rfl rfl (by kernel_rfl) (by kernel_rfl) (by kernel_rfl) (fun _ _ _ h => h) (Or.inl ⟨by rfl, ?_⟩) (by assumption) ?_
                rotate_left
                · intro wS hSw; (try dsimp only at hSw); go_simp; (try (with_reducible rfl))
                simp only [Act.put, List.setIfInBounds_toArray, List.set_cons_zero, List.set_cons_succ]
                refine takeH (i := 3) (d := some 27) (v := ?_) rfl rfl (by kernel_rfl) (by kernel_rfl) (by kernel_rfl) (fun _ _ _ h => h) (Or.inl ⟨by rfl, ?_⟩) (by assumption) ?_
                rotate_left
                · intro wS hSw; (try dsimp only at hSw); go_simp; (try (with_reducible rfl))
                simp only [Act.put, List.setIfInBounds_toArray, List.set_cons_zero, List.set_cons_succ]
                refine wpAnyH_ready (rs := [4]) (by kernel_rfl) (by simp) ?_
                refine AllReadyH.cons rfl (fun K hK => ?_) AllReadyH.nil
                go_simp
                refine (HRT.out _).mono ?_
                rintro e w4 ⟨rfl, hb4⟩
                obtain ⟨k0, k1⟩ := HCW.out w4 (HB.out.own.bel.drew.trans (hb4.mono HB.out.own.bel.size))
                have k2 := HCN.out w4 hb4.undrew
                have HB4 := Lib.hid hb4
                clear hb4
                go_wp2_with fail
                refine hK.out _ _ (by (try dsimp only); exact ⟨k0, k1, k2⟩) (fun hHeld => ?_)
                clear hK K
                refine takeH (i := 5) (d := some 29) (v := ?_) rfl rfl (by kernel_rfl) (by kernel_rfl) (by kernel_rfl) (fun _ _ _ h => h) (Or.inl ⟨by rfl, ?_⟩) (by assumption) ?_
                rotate_left
                · intro wS hSw; (try dsimp only at hSw); go_simp; (try (with_reducible rfl))
                simp only [Act.put, List.setIfInBounds_toArray, List.set_cons_zero, List.set_cons_succ]
                refine takeH (i := 6) (d := some 30) (v := ?_) rfl rfl (by kernel_rfl) (by kernel_rfl) (by kernel_rfl) (fun _ _ _ h => h) (Or.inl ⟨by rfl, ?_⟩) (by assumption) ?_
                rotate_left
                · intro wS hSw; (try dsimp only at hSw); go_simp; (try (with_reducible rfl))
                simp only [Act.put, List.setIfInBounds_toArray, List.set_cons_zero, List.set_cons_succ]
                refine takeH (i := 7) (d := some 31) (v := ?_) rfl rfl (by kernel_rfl) (by kernel_rfl) (by kernel_rfl) (fun _ _ _ h => h) (Or.inl ⟨by rfl, ?_⟩) (by assumption) ?_
                rotate_left
                · intro wS hSw; (try dsimp only at hSw); go_simp; (try (with_reducible rfl))
                simp only [Act.put, List.setIfInBounds_toArray, List.set_cons_zero, List.set_cons_succ]
                refine takeH (i := 8) (d := some 32) (v := ?_) rfl rfl (by kernel_rfl) (by kernel_rfl) (by kernel_rfl) (fun _ _ _ h => h) (Or.inl ⟨by rfl, ?_⟩) (by assumption) ?_
                rotate_left
                · intro wS hSw; (try dsimp only at hSw); go_simp; (try (with_reducible rfl))
                simp only [Act.put, List.setIfInBounds_toArray, List.set_cons_zero, List.set_cons_succ]
                refine takeH (i := 9) (d := some 33) (v := ?_) rfl rfl (by kernel_rfl) (by kernel_rfl) (by kernel_rfl) (fun _ _ _ h => h) (Or.inl ⟨by rfl, ?_⟩) (by assumption) ?_
                rotate_left
                · intro wS hSw; (try dsimp only at hSw); go_simp; (try (with_reducible rfl))
                simp only [Act.put, List.setIfInBounds_toArray, List.set_cons_zero, List.set_cons_succ]
                refine takeH (i := 10) (d := some 34) (v := ?_) rfl rfl (by kernel_rfl) (by kernel_rfl) (by kernel_rfl) (fun _ _ _ h => h) (Or.inl ⟨by rfl, ?_⟩) (by assumption) ?_
                rotate_left
                · intro wS hSw; (try dsimp only at hSw); go_simp; (try (with_reducible rfl))
                simp only [Act.put, List.setIfInBounds_toArray, List.set_cons_zero, List.set_cons_succ]
                refine takeH (i := 11) (d := some 35) (v := ?_) rfl rfl (by kernel_rfl) (by kernel_rfl) (by kernel_rfl) (fun _ _ _ h => h) (Or.inl ⟨by rfl, ?_⟩) (by assumption) ?_
                rotate_left
                · intro wS hSw; (try dsimp only at hSw); go_simp; (try (with_reducible rfl))
                simp only [Act.put, List.setIfInBounds_toArray, List.set_cons_zero, List.set_cons_succ]
                refine takeH (i := 12) (d := some 36) (v := ?_) rfl rfl (by kernel_rfl) (by kernel_rfl) (by kernel_rfl) (fun _ _ _ h => h) (Or.inl ⟨by rfl, ?_⟩) (by assumption) ?_
                rotate_left
                · intro wS hSw; (try dsimp only at hSw); go_simp; (try (with_reducible rfl))
                simp only [Act.put, List.setIfInBounds_toArray, List.set_cons_zero, List.set_cons_succ]
                refine takeH (i := 13) (d := some 37) (v := ?_) rfl rfl (by kernel_rfl) (by kernel_rfl) (by kernel_rfl) (fun _ _ _ h => h) (Or.inl ⟨by rfl, ?_⟩) (by assumption) ?_
                rotate_left
                · intro wS hSw; (try dsimp only at hSw); go_simp; (try (with_reducible rfl))
                simp only [Act.put, List.setIfInBounds_toArray, List.set_cons_zero, List.set_cons_succ]
                refine takeH (i := 14) (d := some 38) (v := ?_) rfl rfl (by kernel_rfl) (by kernel_rfl) (by kernel_rfl) (fun _ _ _ h => h) (Or.inl ⟨by rfl, ?_⟩) (by assumption) ?_
                rotate_left
                · intro wS hSw; (try dsimp only at hSw); go_simp; (try (with_reducible rfl))
                simp only [Act.put, List.setIfInBounds_toArray, List.set_cons_zero, List.set_cons_succ]
                refine takeH (i := 15) (d := some 39) (v := ?_) rfl rfl (by kernel_rfl) (by kernel_rfl) (by kernel_rfl) (fun _ _ _ h => h) (Or.inl ⟨by rfl, ?_⟩) (by assumption) ?_
                rotate_left
                · intro wS hSw; (try dsimp only at hSw); go_simp; (try (with_reducible rfl))
                simp only [Act.put, List.setIfInBounds_toArray, List.set_cons_zero, List.set_cons_succ]
                refine takeH (i := 16) (d := some 40) (v := ?_) rfl rfl (by kernel_rfl) (by kernel_rfl) (by kernel_rfl) (fun _ _ _ h => h) (Or.inl ⟨by rfl, ?_⟩) (by assumption) ?_
                rotate_left
                · intro wS hSw; (try dsimp only at hSw); go_simp; (try (with_reducible rfl))
                simp only [Act.put, List.setIfInBounds_toArray, List.set_cons_zero, List.set_cons_succ]
                refine takeH (i := 17) (d := some 41) (v := ?_) rfl rfl (by kernel_rfl) (by kernel_rfl) (by kernel_rfl) (fun _ _ _ h => h) (Or.inl ⟨by rfl, ?_⟩) (by assumption) ?_
                rotate_left
                · intro wS hSw; (try dsimp only at hSw); go_simp; (try (with_reducible rfl))
                simp only [Act.put, List.setIfInBounds_toArray, List.set_cons_zero, List.set_cons_succ]
                refine takeH (i := 18) (d := some 42) (v := ?_) rfl rfl (by kernel_rfl) (by kernel_rfl) (by kernel_rfl) (fun _ _ _ h => h) (Or.inl ⟨by rfl, ?_⟩) (by assumption) ?_
                rotate_left
                · intro wS hSw; (try dsimp only at hSw); go_simp; (try (with_reducible rfl))
                simp only [Act.put, List.setIfInBounds_toArray, List.set_cons_zero, List.set_cons_succ]
                refine takeH (i := 19) (d := some 43) (v := ?_) rfl rfl (by kernel_rfl) (by kernel_rfl) (by kernel_rfl) (fun _ _ _ h => h) (Or.inl ⟨by rfl, ?_⟩) (by assumption) ?_
                rotate_left
                · intro wS hSw; (try dsimp only at hSw); go_simp; (try (with_reducible rfl))
                simp only [Act.put, List.setIfInBounds_toArray, List.set_cons_zero, List.set_cons_succ]
                refine takeH (i := 20) (d := some 44) (v := ?_) rfl rfl (by kernel_rfl) (by kernel_rfl) (by kernel_rfl) (fun _ _ _ h => h) (Or.inl ⟨by rfl, ?_⟩) (by assumption) ?_
                rotate_left
                · intro wS hSw; (try dsimp only at hSw); go_simp; (try (with_reducible rfl))
                simp only [Act.put, List.setIfInBounds_toArray, List.set_cons_zero, List.set_cons_succ]
                refine takeH (i := 21) (d := some 45) (v := ?_) rfl rfl (by kernel_rfl) (by kernel_rfl) (by kernel_rfl) (fun _ _ _ h => h) (Or.inl ⟨by rfl, ?_⟩) (by assumption) ?_
                rotate_left
                · intro wS hSw; (try dsimp only at hSw); go_simp; (try (with_reducible rfl))
                simp only [Act.put, List.setIfInBounds_toArray, List.set_cons_zero, List.set_cons_succ]
                refine takeH (i := 22) (d := some 46) (v := ?_) rfl rfl (by kernel_rfl) (by kernel_rfl) (by kernel_rfl) (fun _ _ _ h => h) (Or.inl ⟨by rfl, ?_⟩) (by assumption) ?_
                rotate_left
                · intro wS hSw; (try dsimp only at hSw); go_simp; (try (with_reducible rfl))
                simp only [Act.put, List.setIfInBounds_toArray, List.set_cons_zero, List.set_cons_succ]
                refine takeH (i := 23) (d := some 47) (v := ?_) rfl rfl (by kernel_rfl) (by kernel_rfl) (by kernel_rfl) (fun _ _ _ h => h) (Or.inl ⟨by rfl, ?_⟩) (by assumption) ?_
                rotate_left
                · intro wS hSw; (try dsimp only at hSw); go_simp; (try (with_reducible rfl))
                simp only [Act.put, List.setIfInBounds_toArray, List.set_cons_zero, List.set_cons_succ]
                refine takeH (i := 24) (d := some 48) (v := ?_) rfl rfl (by kernel_rfl) (by kernel_rfl) (by kernel_rfl) (fun _ _ _ h => h) (Or.inl ⟨by rfl, ?_⟩) (by assumption) ?_
                rotate_left
                · intro wS hSw; (try dsimp only at hSw); go_simp; (try (with_reducible rfl))
                simp only [Act.put, List.setIfInBounds_toArray, List.set_cons_zero, List.set_cons_succ]
                refine takeH (i := 25) (d := some 49) (v := ?_) rfl rfl (by kernel_rfl) (by kernel_rfl) (by kernel_rfl) (fun _ _ _ h => h) (Or.inl ⟨by rfl, ?_⟩) (by assumption) ?_
                rotate_left
                · intro wS hSw; (try dsimp only at hSw); go_simp; (try (with_reducible rfl))
                simp only [Act.put, List.setIfInBounds_toArray, List.set_cons_zero, List.set_cons_succ]
                refine wpAnyH_done (by kernel_rfl) ?_ _
                go_wp2_with fail
                go_meet
                case rel => exact ⟨rfl, HB4.out.undrew⟩
        case rest =>
          obtain ⟨rfl, hb4⟩ := hcut
          have hN4 := HB.out.below hb4
          have HN4 := Lib.hid hN4
          clear c0 c1 d0 d1 hb4 hdr hC1 hO1
          have hdr4 : Below w.heap.size w wc.drew := hN4.own.bel.drew
          obtain ⟨d0, d1⟩ := HCW.out _ hdr4
          have hbd4 : Bd wc.drew p S ps := hN4.own.bd.below (Below.refl _ _).drew
          have hn4096 : ps.length < 4096 := by omega
          cases C with
          | true =>
            have hC1 := HCC.out.1 rfl
            have HAD := Lib.hid (add_ok p S ps sk sv wc.drew hbd4 hC1.1 hC1.2 hn4096)
            unfold AddP at HAD
            clear hN4 hdr4 hbd4 hC1
            go_wp2_with fail
            refine wp_region_held_drew (S := (fun w' => w'.cell? ⟨bk, off + i * 2, none⟩ = some (.string sk) ∧ w'.cell? ⟨bk, off + i * 2 + 1, none⟩ = some (.string sv))) (by kernel_rfl) (by (try dsimp only); exact ⟨d0, d1⟩) (fun hHeld => ?_)
            refine takeH (i := 0) (d := some 50) (v := ?_) rfl rfl (by kernel_rfl) (by kernel_rfl) (by kernel_rfl) (fun _ _ _ h => h) (Or.inl ⟨by rfl, ?_⟩) (by assumption) ?_
            rotate_left
            · intro wS hSw; (try dsimp only at hSw); go_simp; (try (with_reducible rfl))
            simp only [Act.put, List.setIfInBounds_toArray, List.set_cons_zero, List.set_cons_succ]
            refine takeH (i := 1) (d := some 51) (v := ?_) rfl rfl (by kernel_rfl) (by kernel_rfl) (by kernel_rfl) (fun _ _ _ h => h) (Or.inl ⟨by rfl, ?_⟩) (by assumption) ?_
            rotate_left
            · intro wS hSw; (try dsimp only at hSw); go_simp; (try (with_reducible rfl))
            simp only [Act.put, List.setIfInBounds_toArray, List.set_cons_zero, List.set_cons_succ]
            refine takeH (i := 2) (d := some 52) (v := ?_) rfl rfl (by kernel_rfl) (by kernel_rfl) (by kernel_rfl) (fun _ _ _ h => h) (Or.inl ⟨by rfl, ?_⟩) (by assumption) ?_
            rotate_left
            · intro wS hSw; (try dsimp only at hSw); go_simp; (try (with_reducible rfl))
            simp only [Act.put, List.setIfInBounds_toArray, List.set_cons_zero, List.set_cons_succ]
            refine takeH (i := 3) (d := some 53) (v := ?_) rfl rfl (by kernel_rfl) (by kernel_rfl) (by kernel_rfl) (fun _ _ _ h => h) (Or.inl ⟨by rfl, ?_⟩) (by assumption) ?_
            rotate_left
            · intro wS hSw; (try dsimp only at hSw); go_simp; (try (with_reducible rfl))
            simp only [Act.put, List.setIfInBounds_toArray, List.set_cons_zero, List.set_cons_succ]
            refine takeH (i := 4) (d := some 54) (v := ?_) rfl rfl (by kernel_rfl) (by kernel_rfl) (by kernel_rfl) (fun _ _ _ h => h) (Or.inl ⟨by rfl, ?_⟩) (by assumption) ?_
            rotate_left
            · intro wS hSw; (try dsimp only at hSw); go_simp; (try (with_reducible rfl))
            simp only [Act.put, List.setIfInBounds_toArray, List.set_cons_zero, List.set_cons_succ]
            refine takeH (i := 5) (d := some 55) (v := ?_) rfl rfl (by kernel_rfl) (by kernel_rfl) (by kernel_rfl) (fun _ _ _ h => h) (Or.inl ⟨by rfl, ?_⟩) (by assumption) ?_
            rotate_left
            · intro wS hSw; (try dsimp only at hSw); go_simp; (try (with_reducible rfl))
            simp only [Act.put, List.setIfInBounds_toArray, List.set_cons_zero, List.set_cons_succ]
            refine takeH (i := 6) (d := some 56) (v := ?_) rfl rfl (by kernel_rfl) (by kernel_rfl) (by kernel_rfl) (fun _ _ _ h => h) (Or.inl ⟨by rfl, ?_⟩) (by assumption) ?_
            rotate_left
            · intro wS hSw; (try dsimp only at hSw); go_simp; (try (with_reducible rfl))
            simp only [Act.put, List.setIfInBounds_toArray, List.set_cons_zero, List.set_cons_succ]
            refine takeH (i := 7) (d := some 57) (v := ?_) rfl rfl (by kernel_rfl) (by kernel_rfl) (by kernel_rfl) (fun _ _ _ h => h) (Or.inl ⟨by rfl, ?_⟩) (by assumption) ?_
            rotate_left
            · intro wS hSw; (try dsimp only at hSw); go_simp; (try (with_reducible rfl))
            simp only [Act.put, List.setIfInBounds_toArray, List.set_cons_zero, List.set_cons_succ]
            refine takeH (i := 8) (d := some 58) (v := ?_) rfl rfl (by kernel_rfl) (by kernel_rfl) (by kernel_rfl) (fun _ _ _ h => h) (Or.inl ⟨by rfl, ?_⟩) (by assumption) ?_
            rotate_left
            · intro wS hSw; (try dsimp only at hSw); go_simp; (try (with_reducible rfl))
            simp only [Act.put, List.setIfInBounds_toArray, List.set_cons_zero, List.set_cons_succ]
            refine takeH (i := 9) (d := some 59) (v := ?_) rfl rfl (by kernel_rfl) (by kernel_rfl) (by kernel_rfl) (fun _ _ _ h => h) (Or.inl ⟨by rfl, ?_⟩) (by assumption) ?_
            rotate_left
            · intro wS hSw; (try dsimp only at hSw); go_simp; (try (with_reducible rfl))
            simp only [Act.put, List.setIfInBounds_toArray, List.set_cons_zero, List.set_cons_succ]
            refine takeH (i := 10) (d := some 60) (v := ?_) rfl rfl (by kernel_rfl) (by kernel_rfl) (by kernel_rfl) (fun _ _ _ h => h) (Or.inl ⟨by rfl, ?_⟩) (by assumption) ?_
            rotate_left
            · intro wS hSw; (try dsimp only at hSw); go_simp; (try (with_reducible rfl))
            simp only [Act.put, List.setIfInBounds_toArray, List.set_cons_zero, List.set_cons_succ]
            refine takeH (i := 12) (d := some 62) (v := ?_) rfl rfl (by kernel_rfl) (by kernel_rfl) (by kernel_rfl) (fun _ _ _ h => h) (Or.inl ⟨by rfl, ?_⟩) (by assumption) ?_
            rotate_left
            · intro wS hSw; (try dsimp only at hSw); go_simp; (try (with_reducible rfl))
            simp only [Act.put, List.setIfInBounds_toArray, List.set_cons_zero, List.set_cons_succ]
            refine wpAnyH_ready (rs := [11]) (by kernel_rfl) (by simp) ?_
            refine AllReadyH.cons rfl (fun K hK => ?_) AllReadyH.nil
            go_simp
            refine HAD.out.mono ?_
            rintro e w5 ⟨rfl, S5, h5, hf5, hs5⟩
            have hN5 := (HN4.out.below (Below.refl _ _).drew).add h5 hf5 hs5
            have HN5 := Lib.hid hN5
            obtain ⟨k0, k1⟩ := HCW.out w5 hN5.own.bel
            clear h5 hf5 hs5 hN5
            go_wp2_with fail
            refine hK.out _ _ (by (try dsimp only); exact ⟨k0, k1⟩) (fun hHeld => ?_)
            clear hK K
            refine takeH (i := 13) (d := some 63) (v := ?_) rfl rfl (by kernel_rfl) (by kernel_rfl) (by kernel_rfl) (fun _ _ _ h => h) (Or.inl ⟨by rfl, ?_⟩) (by assumption) ?_
            rotate_left
            · intro wS hSw; (try dsimp only at hSw); go_simp; (try (with_reducible rfl))
            simp only [Act.put, List.setIfInBounds_toArray, List.set_cons_zero, List.set_cons_succ]
            refine wpAnyH_done (by kernel_rfl) ?_ _
            have hr5 := HN5.out.row
            have HR5 := Lib.hid hr5
            have HPR : Hid (flatR [(bl sk, bl sv)] = [.string sk, .string sv]) := Lib.hid (by simp [flatR, str_bl])
            clear hr5 hHeld d0 d1
            go_upto_region 16 with (at_builtin; refine wpList_append_own_at _ rfl (.tmp 66) (.tmp 71) 22 rfl w.heap.size 35 i0 (.agg #[.string ⟨#[]⟩, .string ⟨#[]⟩]) 2 32 Try.underlying22 hi hz0 hz1 hz2 rfl (by decide) _ _ _ rfl (HR5.out.alloc _) ⟨w5.heap.size, 0, none⟩ 1 1 [.string sk, .string sv] rfl rfl (cells2_new _ _ _ _) (two_one _ _) (by unfold maxLen; omega) (by omega) (Nat.le_trans HN5.out.own.bel.size (by simp)) ?_; intro v7 w7 hown hgrow hx1 hx2; have hN7 := HN5.out.append (qs' := ps ++ [(bl sk, bl sv)]) hgrow (by rw [List.length_append, List.length_singleton, flatR_append, HPR.out]; exact hown); obtain ⟨q6, hq6⟩ : ∃ q6, q6 = ps ++ [(bl sk, bl sv)] := ⟨_, rfl⟩; rw [← hq6] at hN7; have hql : q6.length = ps.length + 1 := (by simp [hq6]); rw [← hql] at hown; obtain ⟨ao7, cp7, hv7⟩ := own_form hown; subst hv7; have HN7 := Lib.hid hN7; have HQL := Lib.hid hql; clear hown hgrow hx1 hx2 hN7 hq6 hql)
            obtain ⟨g6, cp6, hv6, _, hg6, hc6, hm6, hcell6⟩ := own_pos HN7.out.row (by (have := HQL.out; omega))
            injection hv6 with hv6 _ hv6'
            subst hv6 hv6'
            unfold maxLen at hm6
            have hn := hcell6 _ _ (flatR_get q6 (q6.length - 1) (by (have := HQL.out; omega))).1
            rw [← lastK_get q6 (by (have := HQL.out; omega))] at hn
            have s0 : q6.length ≤ 300 := by (have := HQL.out; omega)
            have s3 : IntKind.i64.wrap ((q6.length : Int) - 1) = (q6.length : Int) - 1 := IntWalk.i64_in _ (by (have := HQL.out; omega))
            have s4 : ((q6.length : Int) - 1).toNat = q6.length - 1 := by (have := HQL.out; omega)
            have s5 : (0 : Int) ≤ (q6.length : Int) - 1 := by (have := HQL.out; omega)
            have s6 : (q6.length : Int) - 1 < (q6.length : Int) := by (have := HQL.out; omega)
            have s7 : (1 : Int) ≤ (q6.length : Int) := by (have := HQL.out; omega)
            have s8 : decide ((0 : Int) < (q6.length : Int)) = true := by rw [decide_eq_true_eq]; (have := HQL.out; omega)
            have s9 : 0 < q6.length := by (have := HQL.out; omega)
            have HLN := Lib.hid (len_b p _ _ _ HN7.out.own.bd)
            have HLA := Lib.hid (last_b p _ _ _ HN7.out.own.bd)
            have ql : ((q6.length : Int) != (q6.length : Int)) = false := by simp
            have qs : ((str (lastK q6)).toList != (str (lastK q6)).toList) = false := by simp
            clear hcell6
            generalize hLS : str (lastK q6) = ls at *
            generalize hnq : q6.length = n6 at *
            have HNQ := Lib.hid hnq
            clear hLS hnq
            go_wp2_with fail
            (with_reducible refine HLN.out.mono ?_)
            rintro e w8 ⟨rfl, rfl⟩
            go_wp2_with fail
            (with_reducible refine HLA.out.mono ?_)
            rintro e w8 ⟨rfl, rfl⟩
            go_wp2_with fail
            go_roundg (L.length - (i + 1))
            case measure => omega
            case rel => exact ⟨i + 1, q6, _, by omega, by go_num, HN7.out, by (rw [HNQ.out, HQL.out]; omega)⟩
          | false =>
            have hC1 : ¬ (Okp (bl sk, bl sv) ∧ lastK ps < bl sk) := fun h => by have := HCC.out.2 h; cases this
            have HAD := Lib.hid (add_bad p S ps sk sv wc.drew hbd4 hk hv hC1)
            clear hN4 hdr4 hbd4 hC1
            go_wp2_with fail
            refine wp_region_held_drew (S := (fun w' => w'.cell? ⟨bk, off + i * 2, none⟩ = some (.string sk) ∧ w'.cell? ⟨bk, off + i * 2 + 1, none⟩ = some (.string sv))) (by kernel_rfl) (by (try dsimp only); exact ⟨d0, d1⟩) (fun hHeld => ?_)
            refine takeH (i := 0) (d := some 50) (v := ?_) rfl rfl (by kernel_rfl) (by kernel_rfl) (by kernel_rfl) (fun _ _ _ h => h) (Or.inl ⟨by rfl, ?_⟩) (by assumption) ?_
            rotate_left
            · intro wS hSw; (try dsimp only at hSw); go_simp; (try (with_reducible rfl))
            simp only [Act.put, List.setIfInBounds_toArray, List.set_cons_zero, List.set_cons_succ]
            refine takeH (i := 1) (d := some 51) (v := ?_) rfl rfl (by kernel_rfl) (by kernel_rfl) (by kernel_rfl) (fun _ _ _ h => h) (Or.inl ⟨by rfl, ?_⟩) (by assumption) ?_
            rotate_left
            · intro wS hSw; (try dsimp only at hSw); go_simp; (try (with_reducible rfl))
            simp only [Act.put, List.setIfInBounds_toArray, List.set_cons_zero, List.set_cons_succ]
            refine takeH (i := 2) (d := some 52) (v := ?_) rfl rfl (by kernel_rfl) (by kernel_rfl) (by kernel_rfl) (fun _ _ _ h => h) (Or.inl ⟨by rfl, ?_⟩) (by assumption) ?_
            rotate_left
            · intro wS hSw; (try dsimp only at hSw); go_simp; (try (with_reducible rfl))
            simp only [Act.put, List.setIfInBounds_toArray, List.set_cons_zero, List.set_cons_succ]
            refine takeH (i := 3) (d := some 53) (v := ?_) rfl rfl (by kernel_rfl) (by kernel_rfl) (by kernel_rfl) (fun _ _ _ h => h) (Or.inl ⟨by rfl, ?_⟩) (by assumption) ?_
            rotate_left
            · intro wS hSw; (try dsimp only at hSw); go_simp; (try (with_reducible rfl))
            simp only [Act.put, List.setIfInBounds_toArray, List.set_cons_zero, List.set_cons_succ]
            refine takeH (i := 4) (d := some 54) (v := ?_) rfl rfl (by kernel_rfl) (by kernel_rfl) (by kernel_rfl) (fun _ _ _ h => h) (Or.inl ⟨by rfl, ?_⟩) (by assumption) ?_
            rotate_left
            · intro wS hSw; (try dsimp only at hSw); go_simp; (try (with_reducible rfl))
            simp only [Act.put, List.setIfInBounds_toArray, List.set_cons_zero, List.set_cons_succ]
            refine takeH (i := 5) (d := some 55) (v := ?_) rfl rfl (by kernel_rfl) (by kernel_rfl) (by kernel_rfl) (fun _ _ _ h => h) (Or.inl ⟨by rfl, ?_⟩) (by assumption) ?_
            rotate_left
            · intro wS hSw; (try dsimp only at hSw); go_simp; (try (with_reducible rfl))
            simp only [Act.put, List.setIfInBounds_toArray, List.set_cons_zero, List.set_cons_succ]
            refine takeH (i := 6) (d := some 56) (v := ?_) rfl rfl (by kernel_rfl) (by kernel_rfl) (by kernel_rfl) (fun _ _ _ h => h) (Or.inl ⟨by rfl, ?_⟩) (by assumption) ?_
            rotate_left
            · intro wS hSw; (try dsimp only at hSw); go_simp; (try (with_reducible rfl))
            simp only [Act.put, List.setIfInBounds_toArray, List.set_cons_zero, List.set_cons_succ]
            refine takeH (i := 7) (d := some 57) (v := ?_) rfl rfl (by kernel_rfl) (by kernel_rfl) (by kernel_rfl) (fun _ _ _ h => h) (Or.inl ⟨by rfl, ?_⟩) (by assumption) ?_
            rotate_left
            · intro wS hSw; (try dsimp only at hSw); go_simp; (try (with_reducible rfl))
            simp only [Act.put, List.setIfInBounds_toArray, List.set_cons_zero, List.set_cons_succ]
            refine takeH (i := 8) (d := some 58) (v := ?_) rfl rfl (by kernel_rfl) (by kernel_rfl) (by kernel_rfl) (fun _ _ _ h => h) (Or.inl ⟨by rfl, ?_⟩) (by assumption) ?_
            rotate_left
            · intro wS hSw; (try dsimp only at hSw); go_simp; (try (with_reducible rfl))
            simp only [Act.put, List.setIfInBounds_toArray, List.set_cons_zero, List.set_cons_succ]
            refine takeH (i := 9) (d := some 59) (v := ?_) rfl rfl (by kernel_rfl) (by kernel_rfl) (by kernel_rfl) (fun _ _ _ h => h) (Or.inl ⟨by rfl, ?_⟩) (by assumption) ?_
            rotate_left
            · intro wS hSw; (try dsimp only at hSw); go_simp; (try (with_reducible rfl))
            simp only [Act.put, List.setIfInBounds_toArray, List.set_cons_zero, List.set_cons_succ]
            refine takeH (i := 10) (d := some 60) (v := ?_) rfl rfl (by kernel_rfl) (by kernel_rfl) (by kernel_rfl) (fun _ _ _ h => h) (Or.inl ⟨by rfl, ?_⟩) (by assumption) ?_
            rotate_left
            · intro wS hSw; (try dsimp only at hSw); go_simp; (try (with_reducible rfl))
            simp only [Act.put, List.setIfInBounds_toArray, List.set_cons_zero, List.set_cons_succ]
            refine takeH (i := 12) (d := some 62) (v := ?_) rfl rfl (by kernel_rfl) (by kernel_rfl) (by kernel_rfl) (fun _ _ _ h => h) (Or.inl ⟨by rfl, ?_⟩) (by assumption) ?_
            rotate_left
            · intro wS hSw; (try dsimp only at hSw); go_simp; (try (with_reducible rfl))
            simp only [Act.put, List.setIfInBounds_toArray, List.set_cons_zero, List.set_cons_succ]
            refine wpAnyH_ready (rs := [11]) (by kernel_rfl) (by simp) ?_
            refine AllReadyH.cons rfl (fun K hK => ?_) AllReadyH.nil
            go_simp
            refine HAD.out.mono ?_
            rintro e w5 ⟨rfl, rfl⟩
            go_wp2_with fail
            refine hK.out _ _ (by (try dsimp only); exact ⟨d0, d1⟩) (fun hHeld => ?_)
            clear hK K
            refine takeH (i := 13) (d := some 63) (v := ?_) rfl rfl (by kernel_rfl) (by kernel_rfl) (by kernel_rfl) (fun _ _ _ h => h) (Or.inl ⟨by rfl, ?_⟩) (by assumption) ?_
            rotate_left
            · intro wS hSw; (try dsimp only at hSw); go_simp; (try (with_reducible rfl))
            simp only [Act.put, List.setIfInBounds_toArray, List.set_cons_zero, List.set_cons_succ]
            refine wpAnyH_done (by kernel_rfl) ?_ _
            have HN7 := Lib.hid (HN4.out.below (Below.refl _ _).drew)
            clear hHeld d0 d1
            rcases Nat.eq_zero_or_pos ps.length with h0 | h0
            · obtain rfl := List.length_eq_zero_iff.1 h0
              have hls : str (lastK []) = ⟨#[]⟩ := rfl
              have HLN := Lib.hid (len_b p _ _ _ HN7.out.own.bd)
              have hla := last_b p _ _ _ HN7.out.own.bd
              rw [hls] at hla
              have HLA := Lib.hid hla
              clear hla hls h0
              go_wp2_with fail
              (with_reducible refine HLN.out.mono ?_)
              rintro e w8 ⟨rfl, rfl⟩
              go_wp2_with fail
              (with_reducible refine HLA.out.mono ?_)
              rintro e w8 ⟨rfl, rfl⟩
              go_wp2_with fail
              go_roundg (L.length - (i + 1))
              case measure => omega
              case rel => exact ⟨i + 1, [], _, by omega, by go_num, HN7.out, by simp⟩
            · obtain ⟨q6, hq6⟩ : ∃ q6, q6 = ps := ⟨_, rfl⟩
              subst hq6
              have H0 := Lib.hid h0
              obtain ⟨g6, cp6, hv6, _, hg6, hc6, hm6, hcell6⟩ := own_pos HN7.out.row (by (have := H0.out; omega))
              injection hv6 with hv6 _ hv6'
              subst hv6 hv6'
              unfold maxLen at hm6
              have hn := hcell6 _ _ (flatR_get q6 (q6.length - 1) (by (have := H0.out; omega))).1
              rw [← lastK_get q6 (by (have := H0.out; omega))] at hn
              have s0 : q6.length ≤ 300 := by (have := H0.out; omega)
              have s3 : IntKind.i64.wrap ((q6.length : Int) - 1) = (q6.length : Int) - 1 := IntWalk.i64_in _ (by (have := H0.out; omega))
              have s4 : ((q6.length : Int) - 1).toNat = q6.length - 1 := by (have := H0.out; omega)
              have s5 : (0 : Int) ≤ (q6.length : Int) - 1 := by (have := H0.out; omega)
              have s6 : (q6.length : Int) - 1 < (q6.length : Int) := by (have := H0.out; omega)
              have s7 : (1 : Int) ≤ (q6.length : Int) := by (have := H0.out; omega)
              have s8 : decide ((0 : Int) < (q6.length : Int)) = true := by rw [decide_eq_true_eq]; (have := H0.out; omega)
              have s9 : 0 < q6.length := by (have := H0.out; omega)
              have HLN := Lib.hid (len_b p _ _ _ HN7.out.own.bd)
              have HLA := Lib.hid (last_b p _ _ _ HN7.out.own.bd)
              have ql : ((q6.length : Int) != (q6.length : Int)) = false := by simp
              have qs : ((str (lastK q6)).toList != (str (lastK q6)).toList) = false := by simp
              clear hcell6
              generalize hLS : str (lastK q6) = ls at *
              generalize hnq : q6.length = n6 at *
              have HNQ := Lib.hid hnq
              clear hLS hnq
              go_wp2_with fail
              (with_reducible refine HLN.out.mono ?_)
              rintro e w8 ⟨rfl, rfl⟩
              go_wp2_with fail
              (with_reducible refine HLA.out.mono ?_)
              rintro e w8 ⟨rfl, rfl⟩
              go_wp2_with fail
              go_roundg (L.length - (i + 1))
              case measure => omega
              case rel => exact ⟨i + 1, q6, _, by omega, by go_num, HN7.out, by rw [HNQ.out]; omega⟩
      · obtain rfl : i = L.length := by omega
        have hin := PrsIn.own HB.out.row HB.out.own.bd.rise.ok
        have HRB := Lib.hid (refBytes_any _ _ wr hin HB.out.own.bd.rise.ok HB.out.own.bd.rise.le)
        clear hin
        go_wp2_with fail
        (with_reducible refine HRB.out.mono ?_)
        rintro e w5 ⟨rfl, hb5⟩
        have hB5 := HB.out.below hb5
        have HB5 := Lib.hid hB5
        have HBY := Lib.hid (bytes_b _ _ _ _ hB5.own.bd)
        clear hb5 hB5 HRB
        go_wp2_with fail
        (with_reducible refine HBY.out.mono ?_)
        rintro e w6 ⟨rfl, hb6⟩
        have hB6 := HB5.out.below hb6
        have HB6 := Lib.hid hB6
        have HSZ := size_b _ _ _ _ hB6.own.bd
        have e1 := str_size (blk ps)
        rw [← e1] at HSZ
        have HSZ := Lib.hid HSZ
        clear hb6 hB6 HBY e1
        generalize str (blk ps) = sb at *
        have q1 : (sb.toList == sb.toList) = true := by simp
        have q2 : ((sb.size : Int) == (sb.size : Int)) = true := by simp
        go_wp2_with fail
        (with_reducible refine HSZ.out.mono ?_)
        rintro e w7 ⟨rfl, hb7⟩
        have HB7 := Lib.hid (HB6.out.own.bel.trans (hb7.mono HB6.out.own.bel.size))
        clear hb7
        go_wp2_with fail
        go_ret
        exact ⟨rfl, HB7.out⟩
end Go.Proofs.Ytcoicdaobgneeaa
