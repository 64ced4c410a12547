
/-
  The walks of a view.
-/
import Derived.Test.YtdbfaknpfepnfaaGreatDoorCurViewP
namespace Go.Proofs.YtdbfaknpfepnfaaGreatDoor
open Go.RowKit CodecP Cur

theorem str_ne0 {l : List UInt8} (h : 1 ≤ l.length) : (str l).toList.isEmpty = false ∧ (!(str l).toList.isEmpty) = true := ne_facts (by rw [str_size]; exact h)
theorem set_vc0 {w : World} {v : Nat} {t : TypeId} {a0 a1 a2 a3 a4 a5 : Value} (h : w.heap[v]? = some (.cells #[a0, a1, a2, a3, a4, a5] t (0, 0))) (x y z : Value) :
    (((w.setCell ⟨v, 2, none⟩ x).setCell ⟨v, 3, none⟩ y).setCell ⟨v, 4, none⟩ z).heap[v]? = some (.cells #[a0, a1, x, y, z, a5] t (0, 0)) ∧ Fr (fun k => k = v) w (((w.setCell ⟨v, 2, none⟩ x).setCell ⟨v, 3, none⟩ y).setCell ⟨v, 4, none⟩ z) :=
  ⟨setAt2 (o := 4) z (setAt2 (o := 3) y (setAt2 (o := 2) x h)), (((Fr.refl (fun k => k = v) w).setCell (p := ⟨v, 2, none⟩) (.inl rfl) x).setCell (p := ⟨v, 3, none⟩) (.inl rfl) y).setCell (p := ⟨v, 4, none⟩) (.inl rfl) z⟩
set_option maxRecDepth 100000 in
set_option maxHeartbeats 4000000 in
theorem settle_any {B p : Nat} (K : MerK B p) (v : Nat) (seq : Int) (S : Nat → Prop) (r0 : List Pr) (st : VSt) (last0 : List UInt8) (w : World) (h : Vw K w v seq S r0 st) (herr : st.err = 0) (hfit : fitsR r0) :
    Calls Tryz.prog 67 #[(Value.pointer (some ⟨v, 0, none⟩)), .string (str last0)] w fun e w' => e = .returned (.tuple #[]) ∧ Fr (fun k => k = v ∨ S k) w w' ∧ ∃ S', Vw K w' v seq S' (settleF seq last0 r0).1 (settleF seq last0 r0).2 ∧ ∀ j, S' j → S j ∨ w.heap.size ≤ j := by
  obtain ⟨hc1, hf1⟩ := set_vc0 h.cells (.string ⟨#[]⟩) (.string ⟨#[]⟩) (.bool false)
  rw [herr] at hc1
  have h2 : Vw K _ v seq S r0 ⟨[], [], false, 0⟩ := h.put hf1 hc1
  have c2 := cellOf2 (o := 2) h.cells rfl
  have f2 := free_of2 2 h.cells
  have q1 := setAt2 (o := 2) (.string ⟨#[]⟩) h.cells
  have c3 := cellOf2 (o := 3) q1 rfl
  have f3 := free_of2 3 q1
  have q2 := setAt2 (o := 3) (.string ⟨#[]⟩) q1
  have c4 := cellOf2 (o := 4) q2 rfl
  have f4 := free_of2 4 q2
  have HV := Lib.hid h2
  have HF := Lib.hid (hf1.mono (T := fun k => k = v ∨ S k) (fun k _ hk => .inl hk))
  have HFIT := Lib.hid hfit
  clear h hc1 hf1 h2 q1 q2 hfit herr
  obtain ⟨R, hR⟩ : ∃ R, settleF seq last0 r0 = R := ⟨_, rfl⟩
  rw [hR]
  have HR := Lib.hid hR
  clear hR
  go_enter Tryz.func67, Tryz.ntmps67
  go_upto_region 1 with (fail)
  clear c2 f2 c3 f3 c4 f4
  generalize ((w.setCell ⟨v, 2, none⟩ (.string ⟨#[]⟩)).setCell ⟨v, 3, none⟩ (.string ⟨#[]⟩)).setCell ⟨v, 4, none⟩ (.bool false) = wa at *
  go_loopg [1] r0.length (fun g lv wr => ∃ last r S', lv = .string (str last) ∧ settleF seq last r = R ∧ r.length = g ∧ fitsR r ∧ Vw K wr v seq S' r ⟨[], [], false, 0⟩ ∧ Fr (fun k => k = v ∨ S k) w wr ∧ (∀ j, S' j → S j ∨ w.heap.size ≤ j))
  case atStart => exact ⟨last0, r0, S, rfl, HR.out, rfl, HFIT.out, HV.out, HF.out, fun j hj => .inl hj⟩
  case round =>
    clear HV HF HFIT HR
    obtain ⟨last, r, S', rfl, hset, hlen, hfit, hv, hf, hs⟩ := hrel
    have d0 := cellOf2 (o := 0) hv.cells rfl
    have d1 := cellOf2 (o := 1) hv.cells rfl
    have d5 := cellOf2 (o := 5) hv.cells rfl
    have g5 := free_of2 5 hv.cells
    have HVAL := Lib.hid (K.valid hv.m)
    have HVW := Lib.hid hv
    have HFR := Lib.hid hf
    have HSS := Lib.hid hs
    have HFI := Lib.hid hfit
    have HSE := Lib.hid hset
    clear hv hf hs hfit hset
    match r, hlen with
    | [], hlen =>
      rw [show decide (0 < ([] : List Pr).length) = false from rfl] at HVAL
      go_wp2_with fail
      (with_reducible refine HVAL.out.mono ?_)
      rintro e w1 ⟨rfl, rfl⟩
      go_wp2_with fail
      go_end0
      refine ⟨rfl, HFR.out, S', ?_, HSS.out⟩
      rw [← HSE.out]
      exact HVW.out
    | x :: r, hlen =>
      rw [show decide (0 < (x :: r).length) = true from by simp] at HVAL
      have HPR := Lib.hid (K.pair HVW.out.m)
      go_wp2_with fail
      (with_reducible refine HVAL.out.mono ?_)
      rintro e w1 ⟨rfl, rfl⟩
      go_wp2_with fail
      (with_reducible refine HPR.out.mono ?_)
      rintro e w2 ⟨rfl, hb2⟩
      go_upto_region 3 with (fail)
      have hp2 : (w2.alloc (.cells #[.string (str x.1), .string (str x.2)] 43)).heap[w2.heap.size]? = some (.cells #[.string (str x.1), .string (str x.2)] 43 (0, 0)) := by
        show (w2.heap.push _)[w2.heap.size]? = _
        simp
      have hb3 : Below wr.heap.size wr (w2.alloc (.cells #[.string (str x.1), .string (str x.2)] 43)) := hb2.alloc hb2.size _
      obtain ⟨hfx, hfy⟩ := HFI.out x (by simp)
      have HP2 := Lib.hid hp2
      have HB3 := Lib.hid hb3
      clear hb2 hp2 hb3 d0 d1 d5 g5 HVAL HPR
      generalize w2.alloc (.cells #[.string (str x.1), .string (str x.2)] 43) = w3 at *
      generalize w2.heap.size = pb at *
      have k0 := cellOf2 (o := 0) HP2.out rfl
      have HU := Lib.hid (unpack_any (str x.1) w3 (by rw [str_size]; unfold maxLen; omega))
      go_wp2_with fail
      (with_reducible refine HU.out.mono ?_)
      rintro e w4 hU
      obtain ⟨hb4, hU2⟩ := unpackP_unp hU
      rw [bl_str] at hU2
      have hb4' := HB3.out.trans (hb4.mono HB3.out.size)
      have HV4 := Lib.hid (HVW.out.keep hb4')
      have HF4 := Lib.hid (HFR.out.trans (Fr.of_below _ hb4') (fun _ _ h => h))
      have hsz4 : w.heap.size ≤ wr.heap.size := HFR.out.size
      have hsw4 : w.heap.size ≤ w4.heap.size := HF4.out.size
      have j1 := (hb4.block pb (lt_of_block HP2.out)).trans HP2.out
      have k1 := cellOf2 (o := 1) j1 rfl
      have d0 := cellOf2 (o := 0) HV4.out.cells rfl
      have d1 := cellOf2 (o := 1) HV4.out.cells rfl
      have d5 := cellOf2 (o := 5) HV4.out.cells rfl
      have g5 := free_of2 5 HV4.out.cells
      clear hU hb4 hb4' k0 j1 HU HP2 HB3 HVW HFR
      have hbad : ∀ W : World, W = w4.setCell ⟨v, 5, none⟩ (.int .i64 9) → Vw K W v seq S' (x :: r) ⟨[], [], false, 9⟩ ∧ Fr (fun k => k = v ∨ S k) w W := fun W hW => by
        subst hW
        have hff : Fr (fun k => k = v) w4 (w4.setCell ⟨v, 5, none⟩ (.int .i64 9)) := (Fr.refl (fun k => k = v) w4).setCell (p := ⟨v, 5, none⟩) (.inl rfl) _
        exact ⟨HV4.out.put hff (setAt2 (o := 5) _ HV4.out.cells), HF4.out.trans hff (fun _ _ h => .inl h)⟩
      have HBAD := Lib.hid hbad
      have HNX := Lib.hid (K.next HV4.out.m)
      clear hbad
      have hgo : ∀ W S5, Fr S' w4 W → K.M W S5 r → (∀ j, S5 j → S' j ∨ w4.heap.size ≤ j) → Vw K W v seq S5 r ⟨[], [], false, 0⟩ ∧ Fr (fun k => k = v ∨ S k) w W ∧ ∀ j, S5 j → S j ∨ w.heap.size ≤ j := fun W S5 h1 h2 h3 => ⟨HV4.out.step h1 h2 h3, HF4.out.trans h1 (fun j hj hs => (HSS.out j hs).elim (fun h => .inr h) (fun h => absurd hj (by omega))), fun j hj => (h3 j hj).elim (HSS.out j) (fun h => .inr (by omega))⟩
      have HGO := Lib.hid hgo
      have HFI2 : Hid (fitsR r) := Lib.hid (fun y hy => HFI.out y (List.mem_cons_of_mem _ hy))
      clear hgo
      rcases hU2 with ⟨k, n, hun, rfl⟩ | ⟨hun, rfl⟩
      · obtain ⟨V, hV⟩ : ∃ V, V = str x.2 := ⟨_, rfl⟩
        have hVs : V.size = x.2.length := by rw [hV, str_size]
        have hVl : V.toList = x.2 := by rw [hV, ByteArray.toList_eq]; exact bl_str _
        rw [← hV] at k1
        rcases hx2 : x.2 with _ | ⟨a, t⟩
        · have hR : R = (x :: r, ⟨[], [], false, 9⟩) := by
            rw [← HSE.out]
            simp [settleF, hun, hx2, goodV]
          subst hR
          obtain ⟨e1, e2, e3⟩ := em_facts (k := V) (by rw [hVs, hx2]; rfl)
          clear hun hV hVs hVl hx2
          go_wp2_with fail
          obtain ⟨hvv, hff⟩ := HBAD.out _ rfl
          exact bodyPost_ret (v := .tuple #[]) (by simp [results, Tryz.results67, go_sem]) rfl ⟨rfl, hff, S', hvv, HSS.out⟩
        · rw [hx2] at hVs hVl hV
          obtain ⟨e1, e2⟩ := ne_facts (k := V) (by rw [hVs]; simp)
          have hx0 : ∀ h, V[0]'h = a := fun h => by
            subst hV
            rfl
          have hs0 : 0 < V.size := by rw [hVs]; simp
          have hs0' : (0 : Int) < (V.size : Int) := by omega
          by_cases ha : a = 80
          · have hg : goodV x.2 = true := by rw [hx2, ha]; rfl
            have hhd : x.2.head? = some 80 := by rw [hx2, ha]; rfl
            have hix : ∀ h, ((V[0]'h).toNat : Int) = 80 := fun h => by rw [hx0, ha]; rfl
            clear hx0 ha
            by_cases hkl : k = last
            · have hR : settleF seq last r = R := by
                rw [← HSE.out]
                simp only [settleF, hun, hg, hkl, true_or, if_true, Bool.true_eq_false, if_false]
              have HRR := Lib.hid hR
              have c1 : ((str k).toList == (str last).toList) = true := by rw [hkl]; simp
              clear hR hun hg hhd hkl hV hVl hVs hx2
              go_wp2_with fail
              (with_reducible refine HNX.out.mono ?_)
              rintro e w5 ⟨rfl, hf5, S5, hm5, hs5⟩
              have HX := Lib.hid (HGO.out w5 S5 hf5 hm5 hs5)
              clear hf5 hm5 hs5
              go_wp2_with fail
              go_roundg r.length
              case measure => rw [← hlen]; simp
              case rel => exact ⟨last, r, S5, rfl, HRR.out, rfl, HFI2.out, HX.out.1, HX.out.2.1, HX.out.2.2⟩
            · have c1 : ((str k).toList == (str last).toList) = false := by
                rw [beq_eq_false_iff_ne]
                intro e
                rw [ByteArray.toList_eq, ByteArray.toList_eq] at e
                exact hkl (by simpa [str] using e)
              by_cases hn : seq < n
              · have hR : settleF seq last r = R := by
                  rw [← HSE.out]
                  simp only [settleF, hun, hg, hn, or_true, if_true, Bool.true_eq_false, if_false]
                have HRR := Lib.hid hR
                have c2 : decide (seq < n) = true := decide_eq_true hn
                clear hR hun hg hhd hkl hn hV hVl hVs hx2
                go_wp2_with fail
                (with_reducible refine HNX.out.mono ?_)
                rintro e w5 ⟨rfl, hf5, S5, hm5, hs5⟩
                have HX := Lib.hid (HGO.out w5 S5 hf5 hm5 hs5)
                clear hf5 hm5 hs5
                go_wp2_with fail
                go_roundg r.length
                case measure => rw [← hlen]; simp
                case rel => exact ⟨last, r, S5, rfl, HRR.out, rfl, HFI2.out, HX.out.1, HX.out.2.1, HX.out.2.2⟩
              · have c2 : decide (seq < n) = false := decide_eq_false hn
                have hR : R = (x :: r, ⟨k, x.2.tail, true, 0⟩) := by
                  rw [← HSE.out]
                  simp only [settleF, hun, hg, hhd, hkl, hn, or_false, if_true, Bool.true_eq_false, if_false]
                subst hR
                have htl : V.extract 1 V.size = str x.2.tail := by
                  rw [← str_bl (V.extract 1 V.size), ext_bl]
                  congr 1
                  rw [hVs, hV, bl_str, hx2]
                  simp
                clear hun hg hhd hkl hn hV hVl hVs hx2
                go_wp2_with fail
                have g2 := free_of2 2 HV4.out.cells
                have d2 := cellOf2 (o := 2) HV4.out.cells rfl
                have d3 := cellOf2 (o := 3) HV4.out.cells rfl
                have d4 := cellOf2 (o := 4) HV4.out.cells rfl
                have g3 := free_of2 3 HV4.out.cells
                have g4 := free_of2 4 HV4.out.cells
                have hs1 : (1 : Int) ≤ (V.size : Int) := by omega
                go_upto_region 9 with (fail)
                clear d0 d1 d5 g5
                go_region
                clear d2 d3 d4 g2 g3 g4
                obtain ⟨hcc, hff⟩ := set_vc0 (w := w4.drew) HV4.out.cells (.string (str k)) (.string (str x.2.tail)) (.bool true)
                have hv4 : Vw K w4.drew v seq S' (x :: r) ⟨[], [], false, 0⟩ := HV4.out.keep (Below.refl _ _).drew
                have hvv : Vw K _ v seq S' (x :: r) ⟨k, x.2.tail, true, 0⟩ := hv4.put hff hcc
                have hfr := (HF4.out.drew).trans hff (fun _ _ h => .inl h)
                have HVV := Lib.hid hvv
                have HFR5 := Lib.hid hfr
                clear hcc hff hv4 hvv hfr
                go_wp2_with fail
                exact bodyPost_ret (v := .tuple #[]) (by simp [results, Tryz.results67, go_sem]) rfl ⟨rfl, HFR5.out, S', HVV.out, HSS.out⟩
          · have hix : ∀ h, ((V[0]'h).toNat : Int) = (a.toNat : Int) := fun h => by rw [hx0]
            have han : ¬ a.toNat = 80 := fun h => ha (by apply UInt8.toNat_inj.1; rw [h]; rfl)
            obtain ⟨c, hc⟩ : ∃ c, c = a.toNat := ⟨_, rfl⟩
            rw [← hc] at hix han
            have q1 : (((c : Nat) : Int) == 80) = false := by rw [beq_eq_false_iff_ne]; omega
            have q2 : (((c : Nat) : Int) != 80) = true := by rw [bne_iff_ne]; omega
            by_cases hD : x.2 = [68]
            · have hg : goodV x.2 = true := by rw [hD]; rfl
              have hhd : ¬ x.2.head? = some 80 := by rw [hD]; decide
              have r1 : (V.toList == [68]) = true := by rw [hVl, ← hx2, hD]; rfl
              have r2 : (V.toList != [68]) = false := by rw [hVl, ← hx2, hD]; rfl
              by_cases hkl : k = last
              · have hR : settleF seq last r = R := by
                  rw [← HSE.out]
                  simp only [settleF, hun, hg, hkl, true_or, if_true, Bool.true_eq_false, if_false]
                have HRR := Lib.hid hR
                have c1 : ((str k).toList == (str last).toList) = true := by rw [hkl]; simp
                clear hR hun hg hhd hkl hV hVs hVl hx2 hx0 ha hD hc
                go_wp2_with fail
                (with_reducible refine HNX.out.mono ?_)
                rintro e w5 ⟨rfl, hf5, S5, hm5, hs5⟩
                have HX := Lib.hid (HGO.out w5 S5 hf5 hm5 hs5)
                clear hf5 hm5 hs5
                go_wp2_with fail
                go_roundg r.length
                case measure => rw [← hlen]; simp
                case rel => exact ⟨last, r, S5, rfl, HRR.out, rfl, HFI2.out, HX.out.1, HX.out.2.1, HX.out.2.2⟩
              · have c1 : ((str k).toList == (str last).toList) = false := by
                  rw [beq_eq_false_iff_ne]
                  intro e
                  rw [ByteArray.toList_eq, ByteArray.toList_eq] at e
                  exact hkl (by simpa [str] using e)
                by_cases hn : seq < n
                · have hR : settleF seq last r = R := by
                    rw [← HSE.out]
                    simp only [settleF, hun, hg, hn, or_true, if_true, Bool.true_eq_false, if_false]
                  have HRR := Lib.hid hR
                  have c2 : decide (seq < n) = true := decide_eq_true hn
                  clear hR hun hg hhd hkl hn hV hVs hVl hx2 hx0 ha hD hc
                  go_wp2_with fail
                  (with_reducible refine HNX.out.mono ?_)
                  rintro e w5 ⟨rfl, hf5, S5, hm5, hs5⟩
                  have HX := Lib.hid (HGO.out w5 S5 hf5 hm5 hs5)
                  clear hf5 hm5 hs5
                  go_wp2_with fail
                  go_roundg r.length
                  case measure => rw [← hlen]; simp
                  case rel => exact ⟨last, r, S5, rfl, HRR.out, rfl, HFI2.out, HX.out.1, HX.out.2.1, HX.out.2.2⟩
                · have c2 : decide (seq < n) = false := decide_eq_false hn
                  have hR : settleF seq k r = R := by
                    rw [← HSE.out]
                    simp only [settleF, hun, hg, hhd, hkl, hn, or_false, Bool.true_eq_false, if_false]
                  have HRR := Lib.hid hR
                  clear hR hun hg hhd hkl hn hV hVs hVl hx2 hx0 ha hD hc
                  go_wp2_with fail
                  (with_reducible refine HNX.out.mono ?_)
                  rintro e w5 ⟨rfl, hf5, S5, hm5, hs5⟩
                  have HX := Lib.hid (HGO.out w5 S5 hf5 hm5 hs5)
                  clear hf5 hm5 hs5
                  go_wp2_with fail
                  go_roundg r.length
                  case measure => rw [← hlen]; simp
                  case rel => exact ⟨k, r, S5, rfl, HRR.out, rfl, HFI2.out, HX.out.1, HX.out.2.1, HX.out.2.2⟩
            · have hR : R = (x :: r, ⟨[], [], false, 9⟩) := by
                rw [← HSE.out]
                have hg : goodV x.2 = false := by
                  unfold goodV
                  rw [beq_eq_false_iff_ne.2 hD, hx2]
                  simpa using ha
                simp only [settleF, hun, hg, if_true]
              subst hR
              have r1 : (V.toList == [68]) = false := by rw [hVl, ← hx2, beq_eq_false_iff_ne]; exact hD
              have r2 : (V.toList != [68]) = true := by rw [hVl, ← hx2, bne_iff_ne]; exact hD
              clear hun hV hVs hVl hx2 hx0 ha hD hc
              go_wp2_with fail
              obtain ⟨hvv, hff⟩ := HBAD.out _ rfl
              exact bodyPost_ret (v := .tuple #[]) (by simp [results, Tryz.results67, go_sem]) rfl ⟨rfl, hff, S', hvv, HSS.out⟩
      · have hR : R = (x :: r, ⟨[], [], false, 9⟩) := by
          rw [← HSE.out]
          simp only [settleF, hun]
        subst hR
        clear hun
        go_wp2_with fail
        obtain ⟨hvv, hff⟩ := HBAD.out _ rfl
        exact bodyPost_ret (v := .tuple #[]) (by simp [results, Tryz.results67, go_sem]) rfl ⟨rfl, hff, S', hvv, HSS.out⟩
end Go.Proofs.YtdbfaknpfepnfaaGreatDoor
