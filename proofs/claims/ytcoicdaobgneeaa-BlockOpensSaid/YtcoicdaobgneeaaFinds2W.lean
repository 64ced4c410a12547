
/-
  The walk of the law BlockFinds.
-/
import Derived.Test.YtcoicdaobgneeaaFindsW
namespace Go.Proofs.Ytcoicdaobgneeaa
open Go.RowKit CodecP

theorem info_strB : (Try.prog.info? 9).map (fun i => (i.zero, i.size, i.bytes)) = some (some (.string ⟨#[]⟩), 1, 16) := by kernel_rfl
theorem strs_two (w : World) (a b : ByteArray) : (w.alloc (.cells #[.string a, .string b] 9)).ownsRow w.heap.size 9 1 (.slice (some ⟨w.heap.size, 0, none⟩) 2 2) 2 ([a, b].map Value.string) :=
  ⟨rfl, .inr ⟨w.heap.size, 2, #[.string a, .string b], rfl, Nat.le_refl _, by show (w.heap.push _)[w.heap.size]? = _; simp, Nat.le_refl _, by unfold maxLen; omega, rfl, rfl⟩⟩
theorem strs_one (ks : List ByteArray) : ∀ u ∈ ks.map Value.string, u.oneCell' = true := by
  intro u hu
  obtain ⟨k, -, rfl⟩ := List.mem_map.1 hu
  rfl
/-- A block stays, where a row of texts is written. -/
theorem Bk.texts {w w' : World} {B p b n : Nat} {v kv : Value} {l : List Pr} {xs : List Value} (h : Bk w B p v l) (hk : w.ownsRow b 9 1 kv n xs) (hf : Fr (fun k => kv.ownBlock = some k) w w') : Bk w' B p v l := by
  refine ⟨(hf.block p (lt_of_block h.cells) (fun e => ?_)).trans h.cells, owns_of_block h.row (fun k hk2 => hf.block k (h.row.lt k hk2).2 (fun e => ?_)), h.rise, h.at_⟩
  · obtain ⟨cs, hc⟩ := own_type hk e
    exact type_ne hc h.cells (by decide) rfl
  · obtain ⟨cs, hc⟩ := own_type hk e
    obtain ⟨cs2, hc2⟩ := own_type h.row hk2
    exact type_ne hc hc2 (by decide) rfl
/-- The keys that are looked up, and the block. -/
structure Fnd (w0 w : World) (B p : Nat) (v : Value) (l : List Pr) (kv : Value) (ks : List ByteArray) : Prop where
  row : w.ownsRow w0.heap.size 9 1 kv ks.length (ks.map Value.string)
  bk : Bk w B p v l
  bel : Below w0.heap.size w0 w
theorem Fnd.below {w0 w w' : World} {B p : Nat} {v : Value} {l : List Pr} {kv : Value} {ks : List ByteArray} (h : Fnd w0 w B p v l kv ks) (hb : Below w.heap.size w w') : Fnd w0 w' B p v l kv ks :=
  ⟨owns_of_block h.row (fun k hk => hb.block k (h.row.lt k hk).2), h2_of hb h.bk, h.bel.trans (hb.mono h.bel.size)⟩
theorem Fnd.append {w0 w w' : World} {B p : Nat} {v : Value} {l : List Pr} {kv kv' : Value} {ks ks' : List ByteArray} (h : Fnd w0 w B p v l kv ks) {o : Obj} (hg : (w.alloc o).grownBy w' kv.ownBlock) (hr : w'.ownsRow w0.heap.size 9 1 kv' ks'.length (ks'.map Value.string)) : Fnd w0 w' B p v l kv' ks' := by
  have hf : Fr (fun k => kv.ownBlock = some k) w w' := ((Fr.refl _ w).alloc o).grown hg (fun _ _ h => h)
  exact ⟨hr, h.bk.texts h.row hf, h.bel.trans (hf.below h.bel.size (fun k _ hk => (h.row.lt k hk).1))⟩
set_option maxRecDepth 100000 in
set_option maxHeartbeats 40000000 in
theorem blockFinds_law (v : Value) (L : List Pr) (key : ByteArray) (w : World) (h : PrsIn w v L) (hkm : key.size ≤ maxLen) :
    Calls Try.prog 8 #[v, .string key] w fun e w' => e = .returned (.bool true) ∧ Below w.heap.size w w' := by
  unfold maxLen at hkm
  obtain ⟨G, hG⟩ : ∃ G : Bool, (G = true ↔ Grt L) := by
    rcases Classical.em (Grt L) with h1 | h1
    · exact ⟨true, by simp [h1]⟩
    · exact ⟨false, by simp [h1]⟩
  have HG := Lib.hid (great_any v L w h G hG)
  have HA := Lib.hid awake_any
  have HV := Lib.hid (fun W (hW : Below w.heap.size w W) => h.below hW)
  obtain ⟨ao, cp, hv, -⟩ := h.ex
  cases G with
  | true =>
    clear hG h
    subst hv
    go_enter Try.func8, Try.ntmps8
    go_wp2_with fail
    (with_reducible refine HG.out.mono ?_)
    rintro e w1 ⟨rfl, hb1⟩
    go_wp2_with fail
    (with_reducible refine (HA.out _).mono ?_)
    rintro e w2 ⟨rfl, hb2⟩
    have HB := Lib.hid (hb1.trans (hb2.mono hb1.size))
    clear hb1 hb2
    go_wp2_with fail
    go_ret
    exact ⟨rfl, HB.out⟩
  | false =>
    have hl200 : L.length ≤ 200 := by
      have : ¬ Grt L := fun h => by have := hG.2 h; cases this
      unfold Grt at this; omega
    clear hG
    subst hv
    by_cases hk3 : 300 < key.size
    · have d1 : decide ((300 : Int) < (key.size : Int)) = true := by rw [decide_eq_true_eq]; omega
      clear h
      go_enter Try.func8, Try.ntmps8
      go_wp2_with fail
      (with_reducible refine HG.out.mono ?_)
      rintro e w1 ⟨rfl, hb1⟩
      go_wp2_with fail
      (with_reducible refine (HA.out _).mono ?_)
      rintro e w2 ⟨rfl, hb2⟩
      have HB := Lib.hid (hb1.trans (hb2.mono hb1.size))
      clear hb1 hb2
      go_wp2_with fail
      go_ret
      exact ⟨rfl, HB.out⟩
    · have d1 : decide ((300 : Int) < (key.size : Int)) = false := by rw [decide_eq_false_iff_not]; omega
      have HRS := Lib.hid (fun W (hW : Below w.heap.size w W) => rises_any _ L W (h.below hW) (by omega))
      have H := Lib.hid h
      clear h
      go_enter Try.func8, Try.ntmps8
      go_wp2_with fail
      (with_reducible refine HG.out.mono ?_)
      rintro e w1 ⟨rfl, hb1⟩
      have HB1 := Lib.hid hb1
      have HRS1 := Lib.hid (HRS.out w1 hb1)
      clear hb1
      go_wp2_with fail
      (with_reducible refine HRS1.out.mono ?_)
      rintro e w2 ⟨R, rfl, hR, hb2⟩
      have HB2 := Lib.hid (HB1.out.trans (hb2.mono HB1.out.size))
      have HRI := Lib.hid hR
      clear hb2 hR
      cases R with
      | false =>
        go_wp2_with fail
        (with_reducible refine (HA.out _).mono ?_)
        rintro e w3 ⟨rfl, hb3⟩
        have HB := Lib.hid (HB2.out.trans (hb3.mono HB2.out.size))
        clear hb3
        go_wp2_with fail
        go_ret
        exact ⟨rfl, HB.out⟩
      | true =>
        have hri : Rise L := HRI.out.1 rfl
        have HRise := Lib.hid hri
        clear hri HRI
        go_wp2_with fail
        (with_reducible refine (HA.out _).mono ?_)
        rintro e w3 ⟨rfl, hb3⟩
        have HB3 := Lib.hid (HB2.out.trans (hb3.mono HB2.out.size))
        have HBY := Lib.hid (refBytes_any _ L w3 (HV.out w3 HB3.out) HRise.out.ok HRise.out.le)
        clear hb3
        go_wp2_with fail
        (with_reducible refine HBY.out.mono ?_)
        rintro e w4 ⟨rfl, hb4⟩
        have HB4 := Lib.hid (HB3.out.trans (hb4.mono HB3.out.size))
        have HOP := Lib.hid (open_blk L w4 HRise.out)
        clear hb4
        go_wp2_with fail
        (with_reducible refine HOP.out.mono ?_)
        rintro e w5 ⟨hb5, p5, v5, rfl, hk5⟩
        have HB5 := Lib.hid (HB4.out.trans (hb5.mono HB4.out.size))
        have HK5 := Lib.hid hk5
        clear hb5 hk5 HA HV
        go_upto_region 6 with (fail)
        have hsz5 := HB5.out.size
        have hf6 : Fnd w (w5.alloc (.cells #[.string key, .string (key ++ ⟨#[0]⟩)] 9)) w4.heap.size p5 v5 L (.slice (some ⟨w5.heap.size, 0, none⟩) 2 2) [key, key ++ ⟨#[0]⟩] :=
          ⟨own_base (strs_two w5 _ _) hsz5, h2_of ((Below.refl _ w5).alloc (Nat.le_refl _) _) HK5.out, HB5.out.alloc hsz5 _⟩
        have HF6 := Lib.hid hf6
        clear hf6
        go_upto_region 7 with (fail)
        generalize w5.alloc (.cells #[.string key, .string (key ++ ⟨#[0]⟩)] 9) = w6 at *
        go_upto_block 0 with (fail)
        go_cut [7, 8] (fun kv iv wx => ∃ ks, Fnd w wx w4.heap.size p5 v5 L kv ks ∧ ks.length ≤ 62)
        case first =>
          obtain ⟨i0, hi, hz0, hz1, hz2⟩ := info_parts info_strB
          have HC := Lib.hid (fun A n cap hv i hi => H.out.cells (A := A) (n := n) (cap := cap) hv (i := i) hi)
          go_wp2_with fail
          go_loopg [7, 8] L.length (fun g kv iv wr => ∃ (i : Nat) (ks : List ByteArray), i + g = L.length ∧ iv = .int .i64 i ∧ Fnd w wr w4.heap.size p5 v5 L kv ks ∧ ks.length = i + 2 ∧ i ≤ 60)
          case atStart => exact ⟨0, _, by omega, rfl, HF6.out, rfl, by omega⟩
          case round =>
            clear HF6
            obtain ⟨i, ks, hig, rfl, hF, hkl, hi60⟩ := hrel
            obtain ⟨ka, kc, hkv⟩ := own_form hF.row
            subst hkv
            have HF := Lib.hid hF
            by_cases hlt : i < L.length
            · have d9 : decide ((i : Int) < (L.length : Int)) = true := by rw [decide_eq_true_eq]; omega
              by_cases h60 : i < 60
              · have d8 : decide ((i : Int) < 60) = true := by rw [decide_eq_true_eq]; omega
                obtain ⟨bk, off, rfl, hc⟩ := HC.out _ _ _ rfl i hlt
                have d0 := (hc wr hF.bel i hlt).1
                have hil : (i : Int) < (L.length : Int) := by omega
                have wi : IntKind.i64.wrap ((i : Int) + 1) = (i : Int) + 1 := IntWalk.i64_in _ (by omega)
                clear hc hF
                generalize str L[i].1 = sk at *
                go_wp2_with (at_builtin; refine wpList_append_own_at _ rfl _ _ 57 rfl w.heap.size 9 i0 (.string ⟨#[]⟩) 1 16 Try.underlying57 hi hz0 hz1 hz2 rfl (by decide) _ _ _ rfl (HF.out.row.alloc _) ⟨wr.heap.size, 0, none⟩ 1 1 [.string sk] rfl rfl (cell_one_new _ _ _) (fun u hu => by rw [List.mem_singleton.1 hu]; rfl) (by unfold maxLen; omega) (by omega) (Nat.le_trans HF.out.bel.size (by simp)) ?_; intro v7 w7 hown hgrow hx1 hx2; have hF7 := HF.out.append (ks' := ks ++ [sk]) hgrow (by rw [List.length_append, List.length_singleton, List.map_append]; exact hown); have HF7 := Lib.hid hF7; clear hown hgrow hx1 hx2 hF7)
                go_roundg (L.length - (i + 1))
                case measure => omega
                case rel => exact ⟨i + 1, ks ++ [sk], by omega, by go_num, HF7.out, by simp; omega, by omega⟩
              · have d8 : decide ((i : Int) < 60) = false := by rw [decide_eq_false_iff_not]; omega
                clear hF
                go_wp2_with fail
                go_meet
                case rel => exact ⟨ks, HF.out, by omega⟩
            · have d9 : decide ((i : Int) < (L.length : Int)) = false := by rw [decide_eq_false_iff_not]; omega
              clear hF
              go_wp2_with fail
              go_meet
              case rel => exact ⟨ks, HF.out, by omega⟩
        case rest =>
          obtain ⟨ks, hF, hk62⟩ := hcut
          obtain ⟨ka, kc, hkv⟩ := own_form hF.row
          subst hkv
          have HF := Lib.hid hF
          have HC := Lib.hid (fun A n cap hv i hi => H.out.cells (A := A) (n := n) (cap := cap) hv (i := i) hi)
          clear hF HF6
          go_wp2_with fail
          go_loopg [9] ks.length (fun g iv wr => ∃ i : Nat, i + g = ks.length ∧ iv = .int .i64 i ∧ Fnd w wr w4.heap.size p5 v5 L (.slice ka ks.length kc) ks)
          case atStart => exact ⟨0, by omega, rfl, HF.out⟩
          case round =>
            obtain ⟨i, hig, rfl, hF⟩ := hrel
            by_cases hlt : i < ks.length
            · have d9 : decide ((i : Int) < (ks.length : Int)) = true := by rw [decide_eq_true_eq]; omega
              obtain ⟨g6, c6, hv6, _, hg6, hc6, hm6, hcell⟩ := own_pos hF.row (by omega)
              injection hv6 with hv6 _ hv6'
              subst hv6 hv6'
              unfold maxLen at hm6
              have wi : IntKind.i64.wrap ((i : Int) + 1) = (i : Int) + 1 := IntWalk.i64_in _ (by omega)
              have hil : (i : Int) < (ks.length : Int) := by omega
              obtain ⟨kk, hkk⟩ : ∃ kk, kk = ks[i] := ⟨_, rfl⟩
              have hk0 := hcell i (.string kk) (by rw [List.getElem?_map, List.getElem?_eq_getElem hlt, hkk]; rfl)
              have HKC := Lib.hid (fun W (hW : Below wr.heap.size wr W) => show W.cell? ⟨g6, i, none⟩ = some (.string kk) from by rw [hW.cell (p := ⟨g6, i, none⟩) hg6]; exact hk0)
              have hbel := hF.bel
              obtain ⟨F, hFe⟩ : ∃ F, F = findN (bl kk) L := ⟨_, rfl⟩
              have HFD := Lib.hid (find_any _ L kk wr (H.out.below hF.bel) (by omega))
              have HGT := Lib.hid (fun W (hW : Below wr.heap.size wr W) => get_bk _ _ _ L kk W (h2_of hW hF.bk))
              have HSK := Lib.hid (fun W (hW : Below wr.heap.size wr W) => seek_any _ _ _ L kk W (h2_of hW hF.bk))
              have hFl : F ≤ L.length := by rw [hFe]; exact findN_le _ _
              rw [← hFe] at HFD HSK
              have hge : getN (bl kk) L = match L[F]? with | some q => if q.1 = bl kk then (q.2, true) else ([], false) | none => ([], false) := by rw [hFe]; rfl
              have HF2 := Lib.hid hF
              have HBW := Lib.hid hbel
              clear hFe hcell hkk hF hbel
              by_cases hFL : F < L.length
              · rw [List.getElem?_eq_getElem hFL] at hge
                simp only [] at hge
                obtain ⟨bk, off, hao, hc⟩ := HC.out _ _ _ rfl F hFL
                have HCW := Lib.hid (fun W hW => hc W hW F hFL)
                subst hao
                obtain ⟨q, hq⟩ : ∃ q, q = L[F] := ⟨_, rfl⟩
                rw [← hq] at HCW hge
                have d7 : decide ((F : Int) < (L.length : Int)) = true := by rw [decide_eq_true_eq]; omega
                have hFi : (F : Int) < (L.length : Int) := by omega
                clear hq hc
                by_cases hqk : q.1 = bl kk
                · rw [if_pos hqk] at hge
                  have e1 : ((str q.1).toList == kk.toList) = true := by rw [hqk, str_bl]; simp
                  rw [hge] at HGT
                  clear hge hqk
                  go_wp2_with fail
                  (with_reducible refine HFD.out.mono ?_)
                  rintro e w7 ⟨rfl, hb7⟩
                  have hk7 := HKC.out w7 hb7
                  have HB7 := Lib.hid hb7
                  clear hb7
                  go_wp2_with fail
                  (with_reducible refine (HGT.out w7 HB7.out).mono ?_)
                  rintro e w8 ⟨rfl, hb8⟩
                  have hb8' := HB7.out.trans (hb8.mono HB7.out.size)
                  have HB8 := Lib.hid hb8'
                  have hk8 := HKC.out w8 hb8'
                  have hw8 : Below w.heap.size w w8 := HBW.out.trans (hb8'.mono HBW.out.size)
                  have hcw8 := HCW.out w8 hw8
                  obtain ⟨x0, x1⟩ := hcw8
                  have HW8 := Lib.hid hw8
                  clear hb8 hb8' hw8
                  go_wp2_with fail
                  go_quiet (fail)
                  obtain ⟨w9, hw9⟩ : ∃ w9, w9 = w8.drewN nq := ⟨_, rfl⟩
                  rw [← hw9]
                  have hb9 : Below wr.heap.size wr w9 := by rw [hw9]; exact HB8.out.drewN nq
                  have hk9 := HKC.out w9 hb9
                  have HS9 := Lib.hid (HSK.out w9 hb9)
                  have HB9 := Lib.hid hb9
                  clear hw9 hb9
                  go_wp2_with fail
                  (with_reducible refine HS9.out.mono ?_)
                  rintro e w10 ⟨rfl, hb10⟩
                  have hb10' := HB9.out.trans (hb10.mono HB9.out.size)
                  have HB10 := Lib.hid hb10'
                  have hx10 := (HCW.out w10 (HBW.out.trans (hb10'.mono HBW.out.size))).2
                  have e2 : ((str q.2).toList != (str q.2).toList) = false := by simp
                  clear hb10 hb10'
                  go_wp2_with fail
                  go_roundg (ks.length - (i + 1))
                  case measure => omega
                  case rel => exact ⟨i + 1, by omega, by go_num, HF2.out.below HB10.out⟩
                · rw [if_neg hqk] at hge
                  have e1 : ((str q.1).toList == kk.toList) = false := by
                    rw [beq_eq_false_iff_ne]
                    intro e
                    rw [ByteArray.toList_eq, ByteArray.toList_eq] at e
                    exact hqk e
                  rw [hge, show str ([] : List UInt8) = ⟨#[]⟩ from rfl] at HGT
                  clear hge hqk
                  go_wp2_with fail
                  (with_reducible refine HFD.out.mono ?_)
                  rintro e w7 ⟨rfl, hb7⟩
                  have hk7 := HKC.out w7 hb7
                  have HB7 := Lib.hid hb7
                  clear hb7
                  go_wp2_with fail
                  (with_reducible refine (HGT.out w7 HB7.out).mono ?_)
                  rintro e w8 ⟨rfl, hb8⟩
                  have hb8' := HB7.out.trans (hb8.mono HB7.out.size)
                  have HB8 := Lib.hid hb8'
                  have hk8 := HKC.out w8 hb8'
                  have hw8 : Below w.heap.size w w8 := HBW.out.trans (hb8'.mono HBW.out.size)
                  obtain ⟨x0, x1⟩ := HCW.out w8 hw8
                  have HW8 := Lib.hid hw8
                  clear hb8 hb8' hw8
                  go_wp2_with fail
                  go_quiet (fail)
                  obtain ⟨w9, hw9⟩ : ∃ w9, w9 = w8.drewN nq := ⟨_, rfl⟩
                  rw [← hw9]
                  have hb9 : Below wr.heap.size wr w9 := by rw [hw9]; exact HB8.out.drewN nq
                  have hk9 := HKC.out w9 hb9
                  have HS9 := Lib.hid (HSK.out w9 hb9)
                  have HB9 := Lib.hid hb9
                  clear hw9 hb9
                  go_wp2_with fail
                  (with_reducible refine HS9.out.mono ?_)
                  rintro e w10 ⟨rfl, hb10⟩
                  have hb10' := HB9.out.trans (hb10.mono HB9.out.size)
                  have HB10 := Lib.hid hb10'
                  clear hb10 hb10'
                  go_wp2_with fail
                  go_roundg (ks.length - (i + 1))
                  case measure => omega
                  case rel => exact ⟨i + 1, by omega, by go_num, HF2.out.below HB10.out⟩
              · rw [List.getElem?_eq_none (by omega)] at hge
                simp only [] at hge
                rw [hge, show str ([] : List UInt8) = ⟨#[]⟩ from rfl] at HGT
                have d7 : decide ((F : Int) < (L.length : Int)) = false := by rw [decide_eq_false_iff_not]; omega
                clear hge
                go_wp2_with fail
                (with_reducible refine HFD.out.mono ?_)
                rintro e w7 ⟨rfl, hb7⟩
                have hk7 := HKC.out w7 hb7
                have HB7 := Lib.hid hb7
                clear hb7
                go_wp2_with fail
                (with_reducible refine (HGT.out w7 HB7.out).mono ?_)
                rintro e w8 ⟨rfl, hb8⟩
                have hb8' := HB7.out.trans (hb8.mono HB7.out.size)
                have HB8 := Lib.hid hb8'
                have hk8 := HKC.out w8 hb8'
                have hw8 : Below w.heap.size w w8 := HBW.out.trans (hb8'.mono HBW.out.size)
                have HW8 := Lib.hid hw8
                clear hb8 hb8' hw8
                go_wp2_with fail
                go_quiet (fail)
                obtain ⟨w9, hw9⟩ : ∃ w9, w9 = w8.drewN nq := ⟨_, rfl⟩
                rw [← hw9]
                have hb9 : Below wr.heap.size wr w9 := by rw [hw9]; exact HB8.out.drewN nq
                have hk9 := HKC.out w9 hb9
                have HS9 := Lib.hid (HSK.out w9 hb9)
                have HB9 := Lib.hid hb9
                clear hw9 hb9
                go_wp2_with fail
                (with_reducible refine HS9.out.mono ?_)
                rintro e w10 ⟨rfl, hb10⟩
                have hb10' := HB9.out.trans (hb10.mono HB9.out.size)
                have HB10 := Lib.hid hb10'
                clear hb10 hb10'
                go_wp2_with fail
                go_roundg (ks.length - (i + 1))
                case measure => omega
                case rel => exact ⟨i + 1, by omega, by go_num, HF2.out.below HB10.out⟩
            · have d9 : decide ((i : Int) < (ks.length : Int)) = false := by rw [decide_eq_false_iff_not]; omega
              have HF := Lib.hid hF
              clear hF
              go_wp2_with fail
              go_ret
              exact ⟨rfl, HF.out.bel⟩
end Go.Proofs.Ytcoicdaobgneeaa
