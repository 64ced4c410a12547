/-
  The walk of the law SkipNumbers.
-/
import Derived.Test.YtddlhkkkngfgiaaSkipN2W
import Derived.Test.YtddlhkkkngfgiaaSkipNP
import Derived.Test.YtddlhkkkngfgiaaSkipAwake
import Derived.Test.YtddlhkkkngfgiaaSl
import Derived.Test.YtddlhkkkngfgiaaSn
import Derived.Deep.RegionWith
namespace Go.Proofs.Ytddlhkkkngfgiaa
open Go.RowKit

abbrev StN := St Int ByteArray
/-- The map, and a row beside it. -/
structure NB (w0 w : World) (c : Nat) (H : StN) (es : List StN) (nv : Value) (La : List Int) : Prop where
  sk : N64.SkS w c H es
  own : ∀ k, CSk c H es k → w0.heap.size ≤ k
  row : w.ownsRow w0.heap.size 2 1 nv La.length (La.map (Value.int .i64))
  apart : ∀ k, nv.ownBlock = some k → ¬ CSk c H es k
  bel : Below w0.heap.size w0 w
section
variable {w0 w w' : World} {c : Nat} {H : StN} {es es' : List StN} {nv nv' : Value} {La La' : List Int}
theorem CSk.lt (h : N64.SkS w c H es) : ∀ k, CSk c H es k → k < w.heap.size := h.lt
theorem NB.quiet (hB : NB w0 w c H es nv La) (hf : Fr (fun _ => False) w w') : NB w0 w' c H es nv La :=
  ⟨hB.sk.keep (fun k hk => hf.block k (hB.sk.lt k hk) (fun h => h)), hB.own, owns_of_block hB.row (fun k hk => hf.block k (hB.row.lt k hk).2 (fun h => h)), hB.apart, hB.bel.trans (hf.below hB.bel.size (fun _ _ h => h.elim))⟩
theorem NB.map (hB : NB w0 w c H es nv La) (h' : N64.SkS w' c H es') (hf : Fr (CSk c H es) w w') (ho : ∀ b, CSk c H es' b → CSk c H es b ∨ w.heap.size ≤ b) : NB w0 w' c H es' nv La :=
  ⟨h', fun k hk => by
    rcases ho k hk with h | h
    · exact hB.own k h
    · exact Nat.le_trans hB.bel.size h, owns_of_block hB.row (fun k hk => hf.block k (hB.row.lt k hk).2 (hB.apart k hk)), fun k hk hc => by
    rcases ho k hc with h | h
    · exact hB.apart k hk h
    · have := (hB.row.lt k hk).2; omega, hB.bel.trans (hf.below hB.bel.size (fun k _ hk => hB.own k hk))⟩
theorem NB.append (hB : NB w0 w c H es nv La) {o : Obj} (hg : (w.alloc o).grownBy w' nv.ownBlock) (hp : w'.ownsRow w0.heap.size 2 1 nv' La'.length (La'.map (Value.int .i64))) (ha : nv'.ownBlock = nv.ownBlock ∨ nv'.ownBlock = some (w.alloc o).heap.size) :
    NB w0 w' c H es nv' La' := by
  have hf : Fr (fun k => nv.ownBlock = some k) w w' := ((Fr.refl _ w).alloc o).grown hg (fun _ _ h => h)
  have hsz : (w.alloc o).heap.size = w.heap.size + 1 := by simp
  refine ⟨hB.sk.keep (fun k hk => hf.block k (hB.sk.lt k hk) (fun h => hB.apart k h hk)), hB.own, hp, fun k hk hc => ?_, hB.bel.trans (hf.below hB.bel.size (fun k _ hk => (hB.row.lt k hk).1))⟩
  rcases ha with ha | ha
  · exact hB.apart k (by rw [← ha]; exact hk) hc
  · rw [ha] at hk
    injection hk with hk
    have := hB.sk.lt k hc
    omega
end
theorem conv1 (W : World) (g i : Nat) (hi : i < 256) (hc : W.cell? ⟨g, 0, none⟩ = some (.int .u8 (i : Int))) : Sem.run Try.prog (convert 37 9 (.slice (some ⟨g, 0, none⟩) 1 1)) W = .ok (.string (txt i)) W :=
  run_convert_bytes_back W 37 9 5 ⟨g, 0, none⟩ 1 [UInt8.ofNat i] Try.underlying37 Try.underlying5 Try.underlying9 (fun j hj => by
    have : j = 0 := by simp at hj; exact hj
    subst this
    rw [show (⟨g, 0, none⟩ : Addr).add 0 = ⟨g, 0, none⟩ from rfl, hc]
    simp; omega)
theorem prsN_len (es : List StN) : (prs es).length = es.length := by simp [prs]
set_option maxRecDepth 100000 in
set_option maxHeartbeats 8000000 in
theorem skipNumbers_main (v1 v2 : Value) (P D : List Int) (w : World) (hv1 : Sl w v1 (P.map (Value.int .i64))) (hv2 : Sl w v2 (D.map (Value.int .i64))) (hl1 : P.length ≤ 150) (hl2 : D.length ≤ 150) :
    Calls Try.prog 4 #[v1, v2] w fun e w' => e = .returned (.bool true) ∧ Below w.heap.size w w' := by
  obtain ⟨i0, hi, hz0, hz1, hz2⟩ := info_parts N64.info_int64
  obtain ⟨ao1, cap1, rfl, hcap1, hcm1, hcell1⟩ := hv1
  obtain ⟨ao2, cap2, rfl, hcap2, hcm2, hcell2⟩ := hv2
  rw [List.length_map] at hcap1 hcap2
  unfold maxLen at hcm1 hcm2
  have HC1 := Lib.hid (fun (hne : P.length ≠ 0) => show ∃ b0 off, ao1 = some ⟨b0, off, none⟩ ∧ ∀ W, Below w.heap.size w W → ∀ (i : Nat) (hi : i < P.length), W.cell? ⟨b0, off + i, none⟩ = some (.int .i64 P[i]) from by
    obtain ⟨b, off, h1, h2, h3⟩ := hcell1 (by intro h; rw [List.map_eq_nil_iff] at h; subst h; simp at hne)
    exact ⟨b, off, h1, fun W hW i hi => by rw [hW.cell (p := ⟨b, off + i, none⟩) h2]; exact h3 i _ (by simp [hi])⟩)
  have HC2 := Lib.hid (fun (hne : D.length ≠ 0) => show ∃ b0 off, ao2 = some ⟨b0, off, none⟩ ∧ ∀ W, Below w.heap.size w W → ∀ (i : Nat) (hi : i < D.length), W.cell? ⟨b0, off + i, none⟩ = some (.int .i64 D[i]) from by
    obtain ⟨b, off, h1, h2, h3⟩ := hcell2 (by intro h; rw [List.map_eq_nil_iff] at h; subst h; simp at hne)
    exact ⟨b, off, h1, fun W hW i hi => by rw [hW.cell (p := ⟨b, off + i, none⟩) h2]; exact h3 i _ (by simp [hi])⟩)
  have HA := Lib.hid awake_any
  have HNW := Lib.hid N64.new_any
  have HP := Lib.hid N64.put_any
  have HK := Lib.hid N64.keys_any
  have HG := Lib.hid N64.get_any
  have HDL := Lib.hid N64.del_any
  have HLE := Lib.hid N64.len_any
  rw [List.length_map, List.length_map]
  have hd1 : decide ((150 : Int) < (P.length : Int)) = false := by rw [decide_eq_false_iff_not]; omega
  have hd2 : decide ((150 : Int) < (D.length : Int)) = false := by rw [decide_eq_false_iff_not]; omega
  clear hcell1 hcell2
  go_enter Try.func4, Try.ntmps4
  go_wp2_with fail
  (with_reducible refine (HA.out _).mono ?_)
  rintro e w1 ⟨rfl, hb1⟩
  have HB1 := Lib.hid hb1
  clear hb1
  go_wp2_with fail
  (with_reducible refine (HNW.out _).mono ?_)
  rintro e w2 ⟨c, H, rfl, h2, hb2, ho2⟩
  have hN : NB w w2 c H [] (.slice none 0 0) [] := ⟨h2, fun k hk => Nat.le_trans HB1.out.size (ho2 k hk), World.ownsRow_nil _ _ _ _, (fun k hk => by cases hk), HB1.out.trans (hb2.mono HB1.out.size)⟩
  have HN := Lib.hid hN
  clear h2 hb2 ho2 hN
  go_wp2_with fail
  go_loopg [6, 7] P.length (fun g nv iv wr => ∃ (i : Nat) (es : List StN), i + g = P.length ∧ iv = .int .i64 i ∧ NB w wr c H es nv (P.take i) ∧ PutI P i (prs es) ∧ es.length ≤ i)
  case atStart => exact ⟨0, [], by omega, rfl, HN.out, PutI.zero P, by simp⟩
  case round =>
    clear HN hd1 hd2 HNW HA
    obtain ⟨i, es, hig, rfl, hNB, hPI, hei⟩ := hrel
    have hrow := hNB.row
    rw [List.length_take, Nat.min_eq_left (by omega)] at hrow
    obtain ⟨ao6, cp6, hu6⟩ := own_form hrow
    subst hu6
    clear hrow
    have HN := Lib.hid hNB
    have HI := Lib.hid hPI
    clear hNB hPI
    by_cases hlt : i < P.length
    · obtain ⟨b0, off, rfl, hc⟩ := HC1.out (by omega)
      have c1 := hc wr HN.out.bel i hlt
      have gi : (i : Int) < (P.length : Int) := by omega
      have HCW := Lib.hid (fun W hW => hc W hW i hlt)
      have HPW := Lib.hid (fun W (hW : Fr (fun _ => False) wr W) => HP.out c H es P[i] (txt i) W (HN.out.quiet hW).sk (by omega))
      have HST := Lib.hid (fun L (h : L = putP ltI (prs es) P[i] (txt i)) => show PutI P (i + 1) L from by rw [h]; exact HI.out.step (List.pairwise_map.2 HN.out.sk.sorted) hlt)
      have HTK := Lib.hid (List.take_succ_eq_append_getElem hlt)
      have htk : (P.take i).length = i := by rw [List.length_take]; omega
      have HTL := Lib.hid htk
      clear hc htk
      generalize P[i] = xa at *
      have hw8 : IntKind.u8.wrap (i : Int) = (i : Int) := by rw [IntKind.wrap_u8]; omega
      have c1a := HCW.out (wr.alloc (.cells #[.int .u8 (i : Int)] 5)) (HN.out.bel.alloc HN.out.bel.size _)
      have hcv := fun W => conv1 W wr.heap.size i (by omega)
      have hcv2 := conv1 ((wr.alloc (.cells #[.int .u8 (i : Int)] 5)).drew) wr.heap.size i (by omega) (by simp)
      have hcv3 := conv1 ((wr.alloc (.cells #[.int .u8 (i : Int)] 5))) wr.heap.size i (by omega) (by simp)
      go_wp2_with fail
      go_region_with (go_at_call 14; refine (HPW.out _ (by first | exact (((Fr.refl _ wr).alloc _).drew) | exact ((Fr.refl _ wr).drew.alloc _))).mono ?_; rintro e w4 ⟨es4, rfl, h4, hp4, hf4, ho4⟩; have hN4 := (HN.out.quiet (by first | exact (((Fr.refl _ wr).alloc _).drew) | exact ((Fr.refl _ wr).drew.alloc _))).map h4 hf4 ho4; have HN4 := Lib.hid hN4; have HI4 := Lib.hid (HST.out _ hp4); have hl4 := len_putP (lt := ltI) (prs es) xa (txt i); rw [show putP ltI (prs es) xa (txt i) = prs es4 from hp4.symm, prsN_len, prsN_len] at hl4; have c1' := HCW.out w4 hN4.bel; clear h4 hp4 hf4 ho4 hN4)
      all_goals
        have hr4 := HN4.out.row
        rw [HTL.out] at hr4
        have HR4 := Lib.hid hr4
        clear hr4
        go_wp2_with (at_builtin; refine wpList_append_own_at _ rfl _ _ 32 rfl w.heap.size 2 i0 (.int .i64 0) 1 8 Try.underlying32 hi hz0 hz1 hz2 rfl (by decide) _ _ _ rfl (HR4.out.alloc _) ⟨w4.heap.size, 0, none⟩ 1 1 [.int .i64 xa] rfl rfl (fun j y hj => by match j, hj with | 0, hj => (simp at hj; subst hj; simp [Addr.add])) (fun y hy => by simp at hy; subst hy; rfl) (by unfold maxLen; omega) (by omega) (by have := HN4.out.bel.size; simp; omega) ?_; intro v' w5 hown' hgrow hatt1 hatt2)
        have hN5 := HN4.out.append (La' := P.take (i + 1)) hgrow (by rw [HTK.out, List.length_append, List.length_singleton, HTL.out, List.map_append]; exact hown') hatt2
        have HN5 := Lib.hid hN5
        clear hown' hgrow hatt1 hatt2 hN5
        go_wp2_with fail
        go_roundg (P.length - (i + 1))
        case measure => omega
        case rel => exact ⟨i + 1, es4, by omega, by go_num, HN5.out, HI4.out, by omega⟩
    · obtain rfl : i = P.length := by omega
      have hN := HN.out
      rw [List.take_length] at hN
      have HN := Lib.hid hN
      have HD0 := Lib.hid (PutI.done (D := D) HI.out)
      clear hN HI HP
      go_wp2_with fail
      go_loopg [8] D.length (fun g dv wr => ∃ (d : Nat) (es : List StN), d + g = D.length ∧ dv = .int .i64 d ∧ NB w wr c H es (.slice ao6 P.length cp6) P ∧ PutD P D d (prs es) ∧ es.length ≤ P.length)
      case atStart => exact ⟨0, es, by omega, rfl, HN.out, HD0.out, hei⟩
      case round =>
        clear HN HD0 hei
        obtain ⟨d, es, hdg, rfl, hNB, hPD, hei⟩ := hrel
        have HN := Lib.hid hNB
        have HD0 := Lib.hid hPD
        clear hNB hPD
        by_cases hlt : d < D.length
        · obtain ⟨b0, off, rfl, hc⟩ := HC2.out (by omega)
          have c1 := hc wr HN.out.bel d hlt
          have gi : (d : Int) < (D.length : Int) := by omega
          have HPW := Lib.hid (HDL.out c H es D[d] wr HN.out.sk (by omega))
          have HST := Lib.hid (fun L (h : L = delP ltI (prs es) D[d]) => show PutD P D (d + 1) L from by rw [h]; exact HD0.out.step (List.pairwise_map.2 HN.out.sk.sorted) hlt)
          clear hc
          generalize D[d] = xa at *
          go_wp2_with fail
          (with_reducible refine HPW.out.mono ?_)
          rintro e w4 ⟨es4, rfl, h4, hp4, hf4, ho4⟩
          have HN4 := Lib.hid (HN.out.map h4 hf4 (fun b hb => .inl (ho4 b hb)))
          have HI4 := Lib.hid (HST.out _ hp4)
          have hl4 := len_del (lt := ltI) (prs es) xa
          rw [show delP ltI (prs es) xa = prs es4 from hp4.symm, prsN_len, prsN_len] at hl4
          clear h4 hp4 hf4 ho4 c1 HPW
          go_wp2_with fail
          go_roundg (D.length - (d + 1))
          case measure => omega
          case rel => exact ⟨d + 1, es4, by omega, by go_num, HN4.out, HI4.out, by omega⟩
        · obtain rfl : d = D.length := by omega
          have HK1 := Lib.hid (HK.out c H es wr HN.out.sk (by omega))
          clear HDL HK
          go_wp2_with fail
          (with_reducible refine HK1.out.mono ?_)
          rintro e w6 ⟨gv, rfl, hb6, ho6⟩
          rw [List.length_map] at ho6
          obtain ⟨ao9, cp9, hu9⟩ := own_form ho6
          subst hu9
          have HN6 := Lib.hid (HN.out.quiet (Fr.of_below _ hb6))
          have HG6 := Lib.hid ho6
          have hcl : cnt P D 0 = 0 := rfl
          have HCL := Lib.hid hcl
          clear hb6 ho6 HK1 HN hcl
          go_wp2_with fail
          go_loopg [10, 11] P.length (fun g nv iv wr => ∃ i : Nat, i + g = P.length ∧ iv = .int .i64 i ∧ nv = .int .i64 (cnt P D i) ∧ Fr (fun _ => False) w6 wr)
          case atStart => exact ⟨0, by omega, rfl, by rw [HCL.out]; rfl, Fr.refl _ _⟩
          case round =>
            clear HCL
            obtain ⟨i, hig2, rfl, rfl, hfr⟩ := hrel
            have HF := Lib.hid hfr
            have hci := cnt_le P D i
            clear hfr
            by_cases hlt : i < P.length
            · obtain ⟨g6, cap6, hs6, _, hgl, hc6, hm6, hcell6⟩ := own_pos HN6.out.row (by omega)
              injection hs6 with hs6 _ hs6'
              subst hs6 hs6'
              have HCP := Lib.hid (fun W (hW : Fr (fun _ => False) w6 W) j (hj : j < P.length) => show W.cell? ⟨g6, j, none⟩ = some (.int .i64 P[j]) from hW.cell (hcell6 j _ (by simp [hj])) (fun h => h))
              have ck := HCP.out wr HF.out i hlt
              have gi : (i : Int) < (P.length : Int) := by omega
              have hN := HN6.out.quiet HF.out
              have HGI := Lib.hid (HG.out c H es P[i] wr hN.sk)
              have hgot := HD0.out.got (List.pairwise_map.2 hN.sk.sorted) hlt
              obtain ⟨q0, hq0⟩ := last_ex P i hlt P.length hlt (Nat.le_refl _)
              have HPI : Hid (P[i]? = some P[i]) := Lib.hid (List.getElem?_eq_getElem hlt)
              have HGOT := Lib.hid hgot
              have HQ0 := Lib.hid hq0
              have HUN := Lib.hid (fun q (hq : Last P P.length q P[i]) => last_unique hq hq0)
              have HNO := Lib.hid (fun k (hk : Last P P.length i k) => show k = P[i] from by have h1 := hk.2.1; rw [List.getElem?_eq_getElem hlt] at h1; injection h1 with h1; exact h1.symm)
              clear hcell6 hN hgot hq0
              generalize P[i] = xi at *
              obtain ⟨vv, hvv⟩ : ∃ vv, vv = (hitP ltI (prs es) xi).getD ⟨#[]⟩ := ⟨_, rfl⟩
              obtain ⟨bb, hbb⟩ : ∃ bb, bb = (hitP ltI (prs es) xi).isSome := ⟨_, rfl⟩
              rw [show (hitP N64.ltS (prs es) xi).getD ⟨#[]⟩ = vv from hvv.symm, show (hitP N64.ltS (prs es) xi).isSome = bb from hbb.symm] at HGI
              have Hhvv := Lib.hid hvv
              have Hhbb := Lib.hid hbb
              clear hvv hbb
              go_wp2_with fail
              (with_reducible refine HGI.out.mono ?_)
              rintro e w7 ⟨rfl, hb7⟩
              have HF7 := Lib.hid (HF.out.trans (Fr.of_below (fun _ => False) hb7) (fun _ _ h => h))
              clear hb7 HGI ck
              go_wp2_with fail
              go_loopg [14, 16] D.length (fun g gv kv wr => ∃ k : Nat, k + g = D.length ∧ kv = .int .i64 k ∧ gv = .bool (decide (xi ∈ D.take k)) ∧ Fr (fun _ => False) w6 wr)
              case atStart => exact ⟨0, by omega, rfl, by simp, HF7.out⟩
              case round =>
                clear HF7
                obtain ⟨k, hkg, rfl, rfl, hfz⟩ := hrel
                have HFZ := Lib.hid hfz
                clear hfz
                by_cases hkl : k < D.length
                · obtain ⟨b2, off2, rfl, hc2⟩ := HC2.out (by omega)
                  have c1 := hc2 wr (HN6.out.quiet HFZ.out).bel k hkl
                  have c2 := HCP.out wr HFZ.out i hlt
                  have HTX := Lib.hid (List.take_succ_eq_append_getElem hkl)
                  have hxi : (P[i]'hlt) = xi := by have := HPI.out; rw [List.getElem?_eq_getElem hlt] at this; injection this
                  rw [hxi] at c2
                  have gk1 : (k : Int) < (D.length : Int) := by omega
                  clear hc2 hxi
                  generalize D[k] = dk at *
                  by_cases hg : xi ∈ D.take k
                  · have hg2 : xi ∈ D.take (k + 1) := by rw [HTX.out]; exact List.mem_append_left _ hg
                    have HG2 := Lib.hid (decide_eq_true hg2)
                    rw [decide_eq_true hg]
                    clear hg hg2
                    go_wp2_with fail
                    go_quiet (fail)
                    go_wp2_with fail
                    go_roundg (D.length - (k + 1))
                    case measure => omega
                    case rel => exact ⟨k + 1, by omega, by go_num, by rw [HG2.out], HFZ.out.drewN _⟩
                  · rw [decide_eq_false hg]
                    have HGF := Lib.hid hg
                    clear hg
                    by_cases he : dk = xi
                    · have hg2 : xi ∈ D.take (k + 1) := by rw [HTX.out, he]; simp
                      have HG2 := Lib.hid (decide_eq_true hg2)
                      subst he
                      have q1 : (dk == dk) = true := by simp
                      clear hg2
                      go_wp2_with fail
                      go_quiet (fail)
                      go_wp2_with fail
                      go_roundg (D.length - (k + 1))
                      case measure => omega
                      case rel => exact ⟨k + 1, by omega, by go_num, by rw [HG2.out], HFZ.out.drewN _⟩
                    · have hg2 : xi ∉ D.take (k + 1) := by
                        rw [HTX.out]; intro h
                        rcases List.mem_append.1 h with h | h
                        · exact HGF.out h
                        · simp at h; exact he h.symm
                      have HG2 := Lib.hid (decide_eq_false hg2)
                      have q1 : (dk == xi) = false := by rw [beq_eq_false_iff_ne]; exact he
                      clear hg2 he
                      go_wp2_with fail
                      go_quiet (fail)
                      go_wp2_with fail
                      go_roundg (D.length - (k + 1))
                      case measure => omega
                      case rel => exact ⟨k + 1, by omega, by go_num, by rw [HG2.out], HFZ.out.drewN _⟩
                · obtain rfl : k = D.length := by omega
                  obtain ⟨gb, hgb⟩ : ∃ gb, gb = decide (xi ∈ D.take D.length) := ⟨_, rfl⟩
                  rw [← hgb]
                  rw [List.take_length] at hgb
                  have Hhgb := Lib.hid hgb
                  clear hgb
                  go_wp2_with fail
                  go_loopg [15, 17] (P.length - i) (fun g lv kv wr => ∃ k q : Nat, k + g = P.length ∧ i ≤ k ∧ kv = .int .i64 k ∧ lv = .int .i64 q ∧ i ≤ q ∧ q < P.length ∧ P[q]? = some xi ∧ (∀ j, q < j → j < k → P[j]? ≠ some xi) ∧ Fr (fun _ => False) w6 wr)
                  case atStart => exact ⟨i, i, by omega, Nat.le_refl _, rfl, rfl, Nat.le_refl _, hlt, HPI.out, fun j h1 h2 => by omega, HFZ.out⟩
                  case round =>
                    clear HFZ
                    obtain ⟨k, q, hkg2, hik, rfl, rfl, hiq, hqP, hPq, hall, hfy⟩ := hrel
                    have HFY := Lib.hid hfy
                    have HPQ := Lib.hid hPq
                    have HALL := Lib.hid hall
                    clear hfy hPq hall
                    by_cases hkl : k < P.length
                    · have c1 := HCP.out wr HFY.out k hkl
                      have c2 := HCP.out wr HFY.out i hlt
                      have hxi : (P[i]'hlt) = xi := by have := HPI.out; rw [List.getElem?_eq_getElem hlt] at this; injection this
                      have HPK : Hid (P[k]? = some P[k]) := Lib.hid (List.getElem?_eq_getElem hkl)
                      rw [hxi] at c2
                      have gk1 : (k : Int) < (P.length : Int) := by omega
                      clear hxi
                      generalize P[k] = dk at *
                      by_cases he : dk = xi
                      · subst he
                        have q1 : (dk == dk) = true := by simp
                        go_wp2_with fail
                        go_quiet (fail)
                        go_wp2_with fail
                        go_roundg (P.length - (k + 1))
                        case measure => omega
                        case rel => exact ⟨k + 1, k, by omega, by omega, by go_num, by go_num, hik, hkl, HPK.out, fun j h1 h2 => by omega, HFY.out.drewN _⟩
                      · have q1 : (dk == xi) = false := by rw [beq_eq_false_iff_ne]; exact he
                        have HNE := Lib.hid he
                        clear he
                        go_wp2_with fail
                        go_quiet (fail)
                        go_wp2_with fail
                        go_roundg (P.length - (k + 1))
                        case measure => omega
                        case rel => exact ⟨k + 1, q, by omega, by omega, by go_num, rfl, hiq, hqP, HPQ.out, fun j h1 h2 => by
                          rcases Nat.lt_or_eq_of_le (Nat.le_of_lt_succ h2) with h3 | h3
                          · exact HALL.out j h1 h3
                          · subst h3; rw [HPK.out]; intro e; injection e with e; exact HNE.out e, HFY.out.drewN _⟩
                    · obtain rfl : k = P.length := by omega
                      have hql : Last P P.length q xi := ⟨hqP, HPQ.out, HALL.out⟩
                      have HQL := Lib.hid hql
                      have hq256 : q < 256 := by omega
                      have hw8 : IntKind.u8.wrap (q : Int) = (q : Int) := by rw [IntKind.wrap_u8]; omega
                      have hcv := conv1 (wr.alloc (.cells #[.int .u8 (q : Int)] 5)) wr.heap.size q hq256 (by simp)
                      clear hql
                      by_cases hd : xi ∈ D
                      · have hg := HGOT.out.1 hd
                        rw [decide_eq_true hd] at Hhgb
                        rw [hg, Option.isSome_none] at Hhbb
                        obtain rfl := Hhgb.out
                        obtain rfl := Hhbb.out
                        have HCI := Lib.hid (cnt_succ_no (P := P) (D := D) (i := i) (fun k hk => by rw [HNO.out k hk]; exact hd))
                        clear hg hd Hhgb Hhbb
                        go_wp2_with fail
                        go_roundg (P.length - (i + 1))
                        case measure => omega
                        case rel => exact ⟨i + 1, by omega, by go_num, by rw [HCI.out], HFY.out⟩
                      · have hg := HGOT.out.2 hd q HQL.out
                        rw [decide_eq_false hd] at Hhgb
                        rw [hg, Option.isSome_some] at Hhbb
                        rw [hg, Option.getD_some] at Hhvv
                        obtain rfl := Hhgb.out
                        obtain rfl := Hhbb.out
                        obtain rfl := Hhvv.out
                        have qn : ((txt q).toList != (txt q).toList) = false := by simp
                        clear hg Hhgb Hhbb Hhvv
                        by_cases hqi : q = i
                        · have HCI := Lib.hid (cnt_succ_yes (P := P) (D := D) (i := i) (k := xi) (by rw [← hqi]; exact HQL.out) hd)
                          subst hqi
                          have q2 : ((q : Int) == (q : Int)) = true := by simp
                          clear hd
                          go_wp2_with fail
                          go_roundg (P.length - (q + 1))
                          case measure => omega
                          case rel => exact ⟨q + 1, by omega, by go_num, by rw [HCI.out]; go_num, HFY.out.alloc _⟩
                        · have HCI := Lib.hid (cnt_succ_no (P := P) (D := D) (i := i) (fun k hk => absurd (last_unique HQL.out (by have := hk; rw [HNO.out k hk] at this; exact this)) hqi))
                          have q2 : ((q : Int) == (i : Int)) = false := by rw [beq_eq_false_iff_ne]; omega
                          clear hd hqi
                          go_wp2_with fail
                          go_roundg (P.length - (i + 1))
                          case measure => omega
                          case rel => exact ⟨i + 1, by omega, by go_num, by rw [HCI.out], HFY.out.alloc _⟩
            · obtain rfl : i = P.length := by omega
              have hN7 := HN6.out.quiet HF.out
              have hca := cnt_all HD0.out (List.pairwise_map.2 hN7.sk.sorted)
              rw [prsN_len] at hca
              rw [hca]
              have HSO := Lib.hid hN7.sk.sorted
              clear hN7 hca hci
              go_wp2_with fail
              go_loopg [18] (es.length + 1) (fun g jv wr => ∃ j : Nat, j + g = es.length + 2 ∧ 1 ≤ j ∧ jv = .int .i64 j ∧ Fr (fun _ => False) w6 wr)
              case atStart => exact ⟨1, by omega, by omega, rfl, HF.out⟩
              case round =>
                clear HF
                obtain ⟨j, hjg, hj1, rfl, hfz⟩ := hrel
                have HFZ := Lib.hid hfz
                clear hfz
                by_cases hjl : j < es.length
                · obtain ⟨g6, cap6, hs6, _, hgl, hc6, hm6, hcell6⟩ := own_pos HG6.out (by omega)
                  injection hs6 with hs6 _ hs6'
                  subst hs6 hs6'
                  have c1 : wr.cell? ⟨g6, j - 1, none⟩ = some (.int .i64 es[j - 1].key) := HFZ.out.cell (hcell6 (j - 1) _ (by simp; exact ⟨_, List.getElem?_eq_getElem (by omega), rfl⟩)) (fun h => h)
                  have c2 : wr.cell? ⟨g6, j, none⟩ = some (.int .i64 es[j].key) := HFZ.out.cell (hcell6 j _ (by simp; exact ⟨_, List.getElem?_eq_getElem (by omega), rfl⟩)) (fun h => h)
                  have hlt2 : es[j - 1].key < es[j].key := by
                    have := (List.pairwise_iff_getElem.1 HSO.out) (j - 1) j (by omega) hjl (by omega)
                    simpa using this
                  have q1 : decide (es[j].key ≤ es[j - 1].key) = false := by rw [decide_eq_false_iff_not]; omega
                  have gj : (j : Int) < (es.length : Int) := by omega
                  have s3 : IntKind.i64.wrap ((j : Int) - 1) = (j : Int) - 1 := IntWalk.i64_in _ (by omega)
                  have s4 : ((j : Int) - 1).toNat = j - 1 := by omega
                  have s5 : (0 : Int) ≤ (j : Int) - 1 := by omega
                  have s6 : (j : Int) - 1 < (es.length : Int) := by omega
                  clear hcell6 hlt2
                  generalize es[j - 1].key = ka at *
                  generalize es[j].key = kb at *
                  go_wp2_with fail
                  go_quiet (fail)
                  go_wp2_with fail
                  go_roundg (es.length + 1 - j)
                  case measure => omega
                  case rel => exact ⟨j + 1, by omega, by omega, by go_num, HFZ.out.drewN _⟩
                · have hN7 := HN6.out.quiet HFZ.out
                  obtain ⟨s7, hm7⟩ := hN7.sk.map
                  have HL7 := Lib.hid (HLE.out c es.length wr (cellOf hm7 rfl))
                  have HB7 := Lib.hid hN7.bel
                  have gj : ¬ (j : Int) < (es.length : Int) := by omega
                  have qe : ((es.length : Int) == (es.length : Int)) = true := by simp
                  clear hN7 hm7
                  go_wp2_with fail
                  (with_reducible refine HL7.out.mono ?_)
                  rintro e w8 ⟨rfl, rfl⟩
                  go_wp2_with fail
                  go_ret
                  exact ⟨rfl, HB7.out⟩
end Go.Proofs.Ytddlhkkkngfgiaa
