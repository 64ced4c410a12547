/-
  The walk of the law SkipPlays.
-/
import Derived.Test.YtddlhkkkngfgiaaLooksW
import Derived.Test.YtddlhkkkngfgiaaSkipAwake
import Derived.StillTailTactics
import Derived.Deep.RegionWith
import Derived.Deep.CutBlock
import Derived.Deep.DeepCutAuto
namespace Go.Proofs.Ytddlhkkkngfgiaa
open Go.RowKit

abbrev Act7 := Int × ByteArray × Int
/-- A list of acts, as it lies. -/
structure ActsAt (w : World) (b off : Nat) (L : List Act7) : Prop where
  c0 : ∀ i, ∀ hi : i < L.length, w.cell? ⟨b, off + i * 3, none⟩ = some (.int .i64 L[i].1)
  c1 : ∀ i, ∀ hi : i < L.length, w.cell? ⟨b, off + i * 3 + 1, none⟩ = some (.string L[i].2.1)
  c2 : ∀ i, ∀ hi : i < L.length, w.cell? ⟨b, off + i * 3 + 2, none⟩ = some (.int .i64 L[i].2.2)
  lt : b < w.heap.size
theorem ActsAt.below {w w' : World} {b off : Nat} {L : List Act7} (h : ActsAt w b off L) (hb : Below w.heap.size w w') : ActsAt w' b off L :=
  ⟨fun i hi => by rw [hb.cell (p := ⟨b, off + i * 3, none⟩) h.lt]; exact h.c0 i hi, fun i hi => by rw [hb.cell (p := ⟨b, off + i * 3 + 1, none⟩) h.lt]; exact h.c1 i hi,
    fun i hi => by rw [hb.cell (p := ⟨b, off + i * 3 + 2, none⟩) h.lt]; exact h.c2 i hi, Nat.lt_of_lt_of_le h.lt hb.size⟩
def Acts (w : World) (v : Value) (L : List Act7) : Prop := ∃ ao cap, v = .slice ao L.length cap ∧ L.length ≤ maxLen ∧ (L ≠ [] → ∃ b off, ao = some ⟨b, off, none⟩ ∧ ActsAt w b off L)
/-- The map, and pairs beside it. -/
structure PB (w0 w : World) (c : Nat) (H : St ByteArray Int) (es : List (St ByteArray Int)) (nv : Value) (ps : List (ByteArray × Int)) : Prop where
  sk : SkS w c H es
  own : ∀ k, CSk c H es k → w0.heap.size ≤ k
  row : PsAt w w0.heap.size nv ps
  apart : ∀ k, nv.ownBlock = some k → ¬ CSk c H es k
  bel : Below w0.heap.size w0 w
section
variable {w0 w w' : World} {c : Nat} {H : St ByteArray Int} {es es' : List (St ByteArray Int)} {nv nv' : Value} {ps ps' : List (ByteArray × Int)}
theorem PB.quiet (hB : PB w0 w c H es nv ps) (hf : Fr (fun _ => False) w w') : PB w0 w' c H es nv ps :=
  ⟨hB.sk.keep (fun k hk => hf.block k (hB.sk.lt k hk) (fun h => h)), hB.own, owns_of_block hB.row (fun k hk => hf.block k (hB.row.lt k hk).2 (fun h => h)), hB.apart, hB.bel.trans (hf.below hB.bel.size (fun _ _ h => h.elim))⟩
theorem PB.map (hB : PB w0 w c H es nv ps) (h' : SkS w' c H es') (hf : Fr (CSk c H es) w w') (ho : ∀ b, CSk c H es' b → CSk c H es b ∨ w.heap.size ≤ b) : PB w0 w' c H es' nv ps :=
  ⟨h', fun k hk => by
    rcases ho k hk with h | h
    · exact hB.own k h
    · exact Nat.le_trans hB.bel.size h, owns_of_block hB.row (fun k hk => hf.block k (hB.row.lt k hk).2 (hB.apart k hk)), fun k hk hc => by
    rcases ho k hc with h | h
    · exact hB.apart k hk h
    · have := (hB.row.lt k hk).2; omega, hB.bel.trans (hf.below hB.bel.size (fun k _ hk => hB.own k hk))⟩
theorem PB.rows (hB : PB w0 w c H es nv ps) (hb : Below w.heap.size w w') (hp : PsAt w' w0.heap.size nv' ps') (hn : nv' = nv ∨ ∀ k, nv'.ownBlock = some k → w.heap.size ≤ k) : PB w0 w' c H es nv' ps' :=
  ⟨hB.sk.keep (fun k hk => hb.block k (hB.sk.lt k hk)), hB.own, hp, fun k hk hc => by
    rcases hn with rfl | hn
    · exact hB.apart k hk hc
    · have h1 := hn k hk
      have h2 := hB.sk.lt k hc
      omega, hB.bel.trans (hb.mono hB.bel.size)⟩
end
theorem prs_length (es : List (St ByteArray Int)) : (prs es).length = es.length := by simp [prs]
/-- What is got of pairs at a key's place. -/
theorem want_at (ps : List (ByteArray × Int)) (k : ByteArray) (v0 : Int) (h : hitP ltS ps k = some v0) : ∃ hi : (loP ltS ps k).length < ps.length, ps[(loP ltS ps k).length].2 = v0 := by
  obtain ⟨h0, -, hat, hend⟩ := lo_up_at ps k
  rcases Nat.lt_or_ge (loP ltS ps k).length ps.length with h1 | h1
  · obtain ⟨-, h3, h4⟩ := hat h1
    have := h4 (h3.1 (by rw [h]; rfl))
    rw [h] at this
    injection this with this
    exact ⟨h1, this.symm⟩
  · rw [hend (by omega)] at h; cases h
set_option maxRecDepth 100000 in
set_option maxHeartbeats 8000000 in
theorem skipPlays_main (v : Value) (L : List Act7) (ask : ByteArray) (w : World) (hL : Acts w v L) (hl : L.length ≤ 100) :
    Calls Try.prog 6 #[v, .string ask] w fun e w' => e = .returned (.bool true) ∧ Below w.heap.size w w' := by
  obtain ⟨ao, cap, rfl, -, hk⟩ := hL
  have HK := Lib.hid hk
  have HA := Lib.hid awake_any
  have HNW := Lib.hid new_any
  have hd1 : decide ((100 : Int) < (L.length : Int)) = false := by rw [decide_eq_false_iff_not]; omega
  clear hk
  go_enter Try.func6, Try.ntmps6
  go_wp2_with fail
  (with_reducible refine (HA.out _).mono ?_)
  rintro e w1 ⟨rfl, hb1⟩
  have HB1 := Lib.hid hb1
  clear hb1
  go_wp2_with fail
  (with_reducible refine (HNW.out _).mono ?_)
  rintro e w2 ⟨c, H, rfl, h2, hb2, ho2⟩
  have hN : PB w w2 c H [] (.slice none 0 0) [] := ⟨h2, fun k hk => Nat.le_trans HB1.out.size (ho2 k hk), World.ownsRow_nil _ _ _ _, (fun k hk => by cases hk), HB1.out.trans (hb2.mono HB1.out.size)⟩
  have HN := Lib.hid hN
  clear h2 hb2 ho2 hN
  go_wp2_with fail
  go_loopg [6, 7] L.length (fun g nv iv wr => ∃ (i : Nat) (es : List (St ByteArray Int)), i + g = L.length ∧ iv = .int .i64 i ∧ PB w wr c H es nv (prs es) ∧ es.length ≤ i)
  case atStart => exact ⟨0, [], by omega, rfl, HN.out, by simp⟩
  case round =>
    clear HN hd1 HNW HA
    obtain ⟨i, es, hig, rfl, hB, hei⟩ := hrel
    have HB := Lib.hid hB
    clear hB
    by_cases hlt : i < L.length
    · obtain ⟨b0, off, rfl, hA⟩ := HK.out (by rintro rfl; simp at hlt)
      have HAC := Lib.hid (fun W (hW : Below w.heap.size w W) => show W.cell? ⟨b0, off + i * 3, none⟩ = some (.int .i64 L[i].1) ∧ W.cell? ⟨b0, off + i * 3 + 1, none⟩ = some (.string L[i].2.1) ∧ W.cell? ⟨b0, off + i * 3 + 2, none⟩ = some (.int .i64 L[i].2.2) from ⟨(hA.below hW).c0 i hlt, (hA.below hW).c1 i hlt, (hA.below hW).c2 i hlt⟩)
      obtain ⟨c0, c1, c2⟩ := HAC.out wr HB.out.bel
      clear hA
      generalize L[i].1 = kind at *
      generalize L[i].2.1 = key at *
      generalize L[i].2.2 = val at *
      have gi : (i : Int) < (L.length : Int) := by omega
      have hpl := prs_length es
      have HF := Lib.hid (find_any _ _ _ key wr HB.out.row (by omega))
      have HWA := Lib.hid (want_at (prs es) key)
      obtain ⟨n, hnn⟩ : ∃ n, n = (loP ltS (prs es) key).length := ⟨_, rfl⟩
      rw [← hnn] at HF HWA
      have Hhnn := Lib.hid hnn
      have Hhpl := Lib.hid hpl
      clear hnn hpl
      go_wp2_with fail
      (with_reducible refine HF.out.mono ?_)
      rintro e w3 ⟨rfl, hb3⟩
      have HB3 := Lib.hid (HB.out.quiet (Fr.of_below _ hb3))
      clear hb3 HF c0 c1 c2
      obtain ⟨c0, c1, c2⟩ := HAC.out w3 HB3.out.bel
      obtain ⟨bb, hbb⟩ : ∃ bb, bb = (hitP ltS (prs es) key).isSome := ⟨_, rfl⟩
      obtain ⟨W0, hW0⟩ : ∃ W0, W0 = (hitP ltS (prs es) key).getD 0 := ⟨_, rfl⟩
      have HPU := Lib.hid (fun W (hW : Fr (fun _ => False) w3 W) => put_any c H es key val W (HB3.out.quiet hW).sk (by omega))
      have HDE := Lib.hid (fun W (hW : Fr (fun _ => False) w3 W) => del_any c H es key W (HB3.out.quiet hW).sk (by omega))
      unfold PutP at HPU
      unfold DelP at HDE
      rw [← hbb, ← hW0] at HPU HDE
      rw [← hbb]
      have Hhbb := Lib.hid hbb
      have HhW0 := Lib.hid hW0
      clear hbb hW0
      go_upto_if 42 with (fail)
      go_cut [10] (fun wv wx => wv = .int .i64 W0 ∧ w3 = wx)
      case first =>
        cases hh : hitP ltS (prs es) key with
        | none =>
          rw [hh] at HhW0 Hhbb
          obtain rfl := HhW0.out
          obtain rfl := Hhbb.out
          clear HhW0 Hhbb hh HWA HPU HDE
          go_wp2_with fail
          go_meet
          case rel => exact ⟨rfl, rfl⟩
        | some v0 =>
          rw [hh] at HhW0 Hhbb
          obtain rfl := HhW0.out
          obtain rfl := Hhbb.out
          obtain ⟨hi2, hv0⟩ := HWA.out _ hh
          obtain ⟨g, cp, hgv, _, _, hcc, hcm, hcell⟩ := own_pos HB3.out.row (by omega)
          have hc := hcell _ _ (flatP_get (prs es) n hi2).2
          rw [hv0] at hc
          subst hgv
          unfold maxLen at hcm
          have gn : (n : Int) < ((prs es).length : Int) := by omega
          clear HhW0 Hhbb hh HWA HPU HDE hv0 hcell
          go_wp2_with fail
          go_meet
          case rel => exact ⟨rfl, rfl⟩
      case rest =>
        obtain ⟨rfl, rfl⟩ := hcut
        clear HWA
        have qb : (bb != bb) = false := by simp
        have qw : (W0 != W0) = false := by simp
        go_upto_block 2 with fail
        go_cut [6] (fun nv wx => ∃ es2 : List (St ByteArray Int), es2.length ≤ i + 1 ∧ PB w wx c H es2 nv (prs es2))
        case first =>
          by_cases hk0 : kind = 0
          · subst hk0
            have hdr : Fr (fun _ => False) w3 w3.drew := (Fr.refl _ _).drew
            have HPX := Lib.hid (HPU.out _ hdr)
            have HDR := Lib.hid hdr
            clear hdr
            go_wp2_with fail
            go_region_with (go_at_call 10; refine HPX.out.mono ?_; rintro e w4 ⟨es4, rfl, h4, hp4, hf4, ho4⟩)
            all_goals
              have hB4 := (HB3.out.quiet HDR.out).map h4 hf4 ho4
              have HB4 := Lib.hid hB4
              have HP4 := Lib.hid hp4
              have hl4 := len_putP (lt := ltS) (prs es) key val
              rw [show putP ltS (prs es) key val = prs es4 from hp4.symm, prs_length, prs_length] at hl4
              have hdr4 : Fr (fun _ => False) w4 w4.drew := (Fr.refl _ _).drew
              have HW := Lib.hid (with_any _ _ _ key val _ (hB4.quiet hdr4).row (by rw [prs_length]; omega))
              have HDR4 := Lib.hid hdr4
              clear h4 hp4 hf4 ho4 hB4 hdr4 HPX c0 c1 c2
              obtain ⟨c0, c1, c2⟩ := HAC.out w4 HB4.out.bel
              go_wp2_with fail
              go_still_tail 11, (by kernel_rfl)
              change wpList _ _ _ _ _ w4.drew
              go_wp2_with fail
              (with_reducible refine HW.out.mono ?_)
              rintro e w5 ⟨nv5, rfl, hp5, hb5⟩
              have HB5 := Lib.hid ((HB4.out.quiet HDR4.out).rows hb5 (own_lower hp5 HB4.out.bel.size) (.inr (fun k hk => (hp5.lt k hk).1)))
              clear hp5 hb5 HW
              go_wp2_with fail
              go_meet
              case rel => exact ⟨es4, by omega, by rw [HP4.out]; exact HB5.out⟩
          · by_cases hk1 : kind = 1
            · subst hk1
              have HPX := Lib.hid (HDE.out w3 (Fr.refl _ _))
              clear hk0
              go_wp2_with fail
              (with_reducible refine HPX.out.mono ?_)
              rintro e w4 ⟨es4, rfl, h4, hp4, hf4, ho4⟩
              have hB4 := HB3.out.map h4 hf4 (fun b hb => .inl (ho4 b hb))
              have HB4 := Lib.hid hB4
              have HP4 := Lib.hid hp4
              have hl4 := len_del (lt := ltS) (prs es) key
              rw [show delP ltS (prs es) key = prs es4 from hp4.symm, prs_length, prs_length] at hl4
              have HW := Lib.hid (without_any _ _ _ key _ hB4.row hB4.bel.size (by rw [prs_length]; omega))
              clear h4 hp4 hf4 ho4 hB4 HPX c0 c1 c2
              obtain ⟨c0, c1, c2⟩ := HAC.out w4 HB4.out.bel
              go_wp2_with fail
              (with_reducible refine HW.out.mono ?_)
              rintro e w5 ⟨nv5, rfl, hp5, hn5, hb5⟩
              have HB5 := Lib.hid (HB4.out.rows hb5 hp5 hn5)
              clear hp5 hn5 hb5 HW
              go_wp2_with fail
              go_meet
              case rel => exact ⟨es4, by omega, by rw [HP4.out]; exact HB5.out⟩
            · have q0 : (kind == 0) = false := by rw [beq_eq_false_iff_ne]; exact hk0
              have q1 : (kind == 1) = false := by rw [beq_eq_false_iff_ne]; exact hk1
              have HCL := Lib.hid (clear_any c H es w3 HB3.out.sk)
              clear hk0 hk1 HPU HDE
              go_wp2_with fail
              (with_reducible refine HCL.out.mono ?_)
              rintro e w4 ⟨rfl, h4, hf4⟩
              have hB4 := HB3.out.map h4 hf4 (fun b hb => .inl (by
                rcases hb with hb | hb
                · exact .inl hb
                · right; simp [blks] at hb ⊢; rcases hb with hb | hb <;> simp [hb]))
              have hB5 := hB4.rows (nv' := .slice none 0 0) (ps' := []) (Below.refl _ _) (World.ownsRow_nil _ _ _ _) (.inr (fun k hk => by cases hk))
              have HB5 := Lib.hid hB5
              clear h4 hf4 hB4 hB5 HCL
              go_wp2_with fail
              go_meet
              case rel => exact ⟨[], by simp, HB5.out⟩
        case rest =>
          obtain ⟨es2, hl2, hB2⟩ := hcut
          have HB2 := Lib.hid hB2
          clear c0 c1 c2 HPU HDE HB3
          obtain ⟨c0, c1, c2⟩ := HAC.out _ hB2.bel
          have HL1 := Lib.hid (looks_any c H es2 _ _ key _ hB2.sk hB2.row (by omega))
          clear hB2
          go_wp2_with fail
          (with_reducible refine HL1.out.mono ?_)
          rintro e w5 ⟨rfl, hb5⟩
          have hB5 := HB2.out.quiet (Fr.of_below _ hb5)
          have HB5 := Lib.hid hB5
          have HL2 := Lib.hid (looks_any c H es2 _ _ ask _ hB5.sk hB5.row (by omega))
          clear hb5 hB5 HL1 c0 c1 c2
          go_wp2_with fail
          (with_reducible refine HL2.out.mono ?_)
          rintro e w6 ⟨rfl, hb6⟩
          have HB6 := Lib.hid (HB5.out.quiet (Fr.of_below _ hb6))
          clear hb6 HL2
          go_wp2_with fail
          go_roundg (L.length - (i + 1))
          case measure => omega
          case rel => exact ⟨i + 1, es2, by omega, by go_num, HB6.out, hl2⟩
    · obtain rfl : i = L.length := by omega
      have HK1 := Lib.hid (keys_any c H es wr HB.out.sk (by omega))
      go_wp2_with fail
      (with_reducible refine HK1.out.mono ?_)
      rintro e w4 ⟨v4, rfl, hb4, ho4⟩
      have HB4 := Lib.hid (HB.out.quiet (Fr.of_below _ hb4))
      rw [List.length_map] at ho4
      obtain ⟨a4, cp4, rfl⟩ := own_form ho4
      have HK4 := Lib.hid ho4
      have hrow := HB4.out.row
      have hpl := prs_length es
      unfold PsAt at hrow
      rw [hpl] at hrow
      have HROW := Lib.hid hrow
      obtain ⟨a6, cp6, rfl⟩ := own_form hrow
      have HPL := Lib.hid hpl
      have ql : ((es.length : Int) != (es.length : Int)) = false := by simp
      clear hb4 ho4 HK1 hrow hpl
      go_wp2_with fail
      go_loopg [16] es.length (fun g jv wr => ∃ j : Nat, j + g = es.length ∧ jv = .int .i64 j ∧ Fr (fun _ => False) w4 wr)
      case atStart => exact ⟨0, by omega, rfl, Fr.refl _ _⟩
      case round =>
        clear ql
        obtain ⟨j, hjg, rfl, hfz⟩ := hrel
        have HFZ := Lib.hid hfz
        clear hfz
        by_cases hjl : j < es.length
        · obtain ⟨g1, cap1, hs1, _, _, hc1, hm1', hcell1⟩ := own_pos HK4.out (by omega)
          obtain ⟨g2, cap2, hs2, _, _, hc2, hm2', hcell2⟩ := own_pos HROW.out (by omega)
          injection hs1 with hs1 _ hs1'
          injection hs2 with hs2 _ hs2'
          subst hs1 hs2 hs1' hs2'
          have k1 : wr.cell? ⟨g1, j, none⟩ = some (.string es[j].key) := HFZ.out.cell (hcell1 j _ (by simp [hjl])) (fun h => h)
          have k2 : wr.cell? ⟨g2, j * 2, none⟩ = some (.string es[j].key) := HFZ.out.cell (v := .string es[j].key) (hcell2 _ _ (by
            have := (flatP_get (prs es) j (by rw [HPL.out]; exact hjl)).1
            rw [this]; simp [prs])) (fun h => h)
          have gj1 : (j : Int) < (es.length : Int) := by omega
          clear hcell1 hcell2
          generalize es[j].key = kj at *
          have qq : (kj.toList == kj.toList) = true := by simp
          have qn : (kj.toList != kj.toList) = false := by simp
          go_wp2_with fail
          go_quiet (fail)
          go_wp2_with fail
          go_roundg (es.length - (j + 1))
          case measure => omega
          case rel => exact ⟨j + 1, by omega, by go_num, HFZ.out.drewN _⟩
        · obtain rfl : j = es.length := by omega
          have HBE := Lib.hid (HB4.out.bel.trans (HFZ.out.below HB4.out.bel.size (fun _ _ h => h.elim)))
          go_wp2_with fail
          go_ret
          exact ⟨rfl, HBE.out⟩
end Go.Proofs.Ytddlhkkkngfgiaa
