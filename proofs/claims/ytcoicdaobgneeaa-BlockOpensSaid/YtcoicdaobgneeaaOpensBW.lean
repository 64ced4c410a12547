
/-
  The walk of the law BlockOpens.
-/
import Derived.Test.YtcoicdaobgneeaaRefOW
namespace Go.Proofs.Ytcoicdaobgneeaa
open Go.RowKit CodecP

set_option maxRecDepth 100000 in
set_option maxHeartbeats 40000000 in
theorem blockOpens_law (s : ByteArray) (k : Int) (w : World) :
    Calls Try.prog 5 #[.string s, .int .i64 k] w fun e w' => e = .returned (.bool true) ∧ Below w.heap.size w w' := by
  have HA := Lib.hid awake_any
  by_cases h4 : 4000 < s.size
  · have d1 : decide ((4000 : Int) < (s.size : Int)) = true := by rw [decide_eq_true_eq]; omega
    go_enter Try.func5, Try.ntmps5
    go_wp2_with fail
    (with_reducible refine (HA.out _).mono ?_)
    rintro e w2 ⟨rfl, hb2⟩
    have HB := Lib.hid hb2
    clear hb2
    go_wp2_with fail
    go_ret
    exact ⟨rfl, HB.out⟩
  · have d1 : decide ((4000 : Int) < (s.size : Int)) = false := by rw [decide_eq_false_iff_not]; omega
    have HOP := Lib.hid (fun W => open_any s W (by omega))
    have HRO := Lib.hid (fun W => refOpen_any s W (by omega))
    go_enter Try.func5, Try.ntmps5
    go_wp2_with fail
    (with_reducible refine (HA.out _).mono ?_)
    rintro e w1 ⟨rfl, hb1⟩
    have HB1 := Lib.hid hb1
    clear hb1
    go_wp2_with fail
    (with_reducible refine (HOP.out _).mono ?_)
    rintro e w2 ⟨hb2, ⟨rfl, hno⟩ | ⟨ps, p, v, hbl, rfl, hk2⟩⟩
    · have HB2 := Lib.hid (HB1.out.trans (hb2.mono HB1.out.size))
      have HNO := Lib.hid hno
      clear hb2 hno
      go_wp2_with fail
      (with_reducible refine (HRO.out _).mono ?_)
      rintro e w3 ⟨hb3, ⟨rfl, -⟩ | ⟨v3, ps3, -, hr3, hbl3, -⟩⟩
      · have HB3 := Lib.hid (HB2.out.trans (hb3.mono HB2.out.size))
        clear hb3
        go_wp2_with fail
        go_ret
        exact ⟨rfl, HB3.out⟩
      · exact absurd hbl3 (HNO.out ps3 hr3)
    · have HB2 := Lib.hid (HB1.out.trans (hb2.mono HB1.out.size))
      have HBL := Lib.hid hbl
      have HK2 := Lib.hid hk2
      clear hb2 hbl hk2
      go_wp2_with fail
      (with_reducible refine (HRO.out _).mono ?_)
      rintro e w3 ⟨hb3, ⟨rfl, hno⟩ | ⟨v3, ps3, rfl, hr3, hbl3, hrow3⟩⟩
      · exact absurd HBL.out (hno ps HK2.out.rise)
      · obtain rfl := blk_inj HK2.out.rise hr3 (HBL.out.symm.trans hbl3)
        have HB3 := Lib.hid (HB2.out.trans (hb3.mono HB2.out.size))
        have hk3 := h2_of hb3 HK2.out
        have HK3 := Lib.hid hk3
        have HROW := Lib.hid hrow3
        have HLN := Lib.hid (bk_len _ _ _ _ _ hk3)
        have HAL := Lib.hid (all_any _ _ _ _ _ hk3)
        have hle := hk3.rise.le
        obtain ⟨ao, cp, hv⟩ := own_form hrow3
        subst hv
        clear hb3 hbl3 hr3 hrow3 hk3
        have ql : ((ps.length : Int) != (ps.length : Int)) = false := by simp
        go_wp2_with fail
        (with_reducible refine HLN.out.mono ?_)
        rintro e w4 ⟨rfl, rfl⟩
        go_wp2_with fail
        (with_reducible refine HAL.out.mono ?_)
        rintro e w5 ⟨v5, rfl, hr5, hb5⟩
        have hrow5 := owns_of_block HROW.out (fun j hj => hb5.block j (HROW.out.lt j hj).2)
        have HSM := Lib.hid (sameB_yes v5 _ _ _ ps w5 hr5 hrow5 (by omega))
        have HB5 := Lib.hid (HB3.out.trans (hb5.mono HB3.out.size))
        have HK5 := Lib.hid (h2_of hb5 HK3.out)
        have HR5 := Lib.hid hrow5
        clear hr5 hb5 hrow5
        go_wp2_with fail
        (with_reducible refine HSM.out.mono ?_)
        rintro e w6 ⟨rfl, hb6⟩
        have HB6 := Lib.hid (HB5.out.trans (hb6.mono HB5.out.size))
        have HK6 := Lib.hid (h2_of hb6 HK5.out)
        have HR6 := Lib.hid (owns_of_block HR5.out (fun j hj => hb6.block j (HR5.out.lt j hj).2))
        clear hb6
        go_wp2_with fail
        go_loopg [9] ps.length (fun g iv wr => ∃ i : Nat, i + g = ps.length ∧ iv = .int .i64 i ∧ Below w6.heap.size w6 wr)
        case atStart => exact ⟨0, by omega, rfl, Below.refl _ _⟩
        case round =>
          obtain ⟨i, hig, rfl, hbl⟩ := hrel
          have hkr := h2_of hbl HK6.out
          have hrr := owns_of_block HR6.out (fun j hj => hbl.block j (HR6.out.lt j hj).2)
          have HBR := Lib.hid hbl
          have hsz := hbl.size
          by_cases hlt : i < ps.length
          · have d0 : decide ((i : Int) < (ps.length : Int)) = true := by rw [decide_eq_true_eq]; omega
            have HAT := Lib.hid (at_yes i _ _ _ ps wr hkr hlt)
            obtain ⟨g6, c6, hv6, _, hg6, hc6, hm6, hcell⟩ := own_pos hrr (by omega)
            injection hv6 with hv6 _ hv6'
            subst hv6 hv6'
            unfold maxLen at hm6
            obtain ⟨x1, x2⟩ := flatR_get ps i hlt
            have y1 := hcell _ _ x1
            have y2 := hcell _ _ x2
            unfold prV at HAT
            have hil : (i : Int) < (ps.length : Int) := by omega
            have wi : IntKind.i64.wrap ((i : Int) + 1) = (i : Int) + 1 := IntWalk.i64_in _ (by omega)
            have HG6 := Lib.hid hg6
            clear hkr hrr hcell x1 x2 hbl
            generalize str ps[i].1 = sk at *
            generalize str ps[i].2 = sv at *
            have e1 : (sk.toList != sk.toList) = false := by simp
            have e2 : (sv.toList != sv.toList) = false := by simp
            go_wp2_with fail
            (with_reducible refine HAT.out.mono ?_)
            rintro e w7 ⟨rfl, hb7⟩
            have z1 : (w7.alloc (.cells #[.string sk, .string sv] 48)).cell? ⟨g6, i * 2, none⟩ = some (.string sk) := (((Fr.of_below (fun _ => False) hb7).alloc _).cell y1 (fun h => h))
            have z2 : (w7.alloc (.cells #[.string sk, .string sv] 48)).cell? ⟨g6, i * 2 + 1, none⟩ = some (.string sv) := (((Fr.of_below (fun _ => False) hb7).alloc _).cell y2 (fun h => h))
            have hp8 : (w7.alloc (.cells #[.string sk, .string sv] 48)).heap[w7.heap.size]? = some (.cells #[.string sk, .string sv] 48 (0, 0)) := by
              show (w7.heap.push _)[w7.heap.size]? = _
              simp
            have hb8 : Below w6.heap.size w6 (w7.alloc (.cells #[.string sk, .string sv] 48)) := (HBR.out.trans (hb7.mono hsz)).alloc (HBR.out.trans (hb7.mono hsz)).size _
            have HP8 := Lib.hid hp8
            have HB8 := Lib.hid hb8
            clear hb7 y1 y2 hp8 hb8
            go_upto_region 13 with (fail)
            generalize w7.alloc (.cells #[.string sk, .string sv] 48) = w8 at *
            have t0 := cellOf2 (o := 0) HP8.out rfl
            have t1 := cellOf2 (o := 1) HP8.out rfl
            go_wp2_with fail
            go_quiet (fail)
            go_wp2_with fail
            go_roundg (ps.length - (i + 1))
            case measure => omega
            case rel => exact ⟨i + 1, by omega, by go_num, HB8.out.drewN _⟩
          · have d0 : decide ((i : Int) < (ps.length : Int)) = false := by rw [decide_eq_false_iff_not]; omega
            have HBW := Lib.hid (HB6.out.trans (hbl.mono HB6.out.size))
            by_cases hk : 0 ≤ k ∧ k < (ps.length : Int)
            · obtain ⟨n, hn⟩ : ∃ n : Nat, k = n := ⟨k.toNat, by omega⟩
              subst hn
              have hnl : n < ps.length := by omega
              have HAT := Lib.hid (at_yes n _ _ _ ps wr hkr hnl)
              unfold prV at HAT
              have f1 : decide ((n : Int) < (ps.length : Int)) = true := by rw [decide_eq_true_eq]; omega
              clear hkr hrr hbl
              generalize str ps[n].1 = sk at *
              generalize str ps[n].2 = sv at *
              go_wp2_with fail
              (with_reducible refine HAT.out.mono ?_)
              rintro e w7 ⟨rfl, hb7⟩
              have hbw7 := HBW.out.trans (hb7.mono HBW.out.size)
              have hp8 : (w7.alloc (.cells #[.string sk, .string sv] 48)).heap[w7.heap.size]? = some (.cells #[.string sk, .string sv] 48 (0, 0)) := by
                show (w7.heap.push _)[w7.heap.size]? = _
                simp
              have HB8 := Lib.hid (hbw7.alloc hbw7.size (.cells #[.string sk, .string sv] 48))
              have HP8 := Lib.hid hp8
              clear hb7 hbw7 hp8
              go_upto_region 16 with (fail)
              generalize w7.alloc (.cells #[.string sk, .string sv] 48) = w8 at *
              have t0 := cellOf2 (o := 0) HP8.out rfl
              have t1 := cellOf2 (o := 1) HP8.out rfl
              go_wp2_with fail
              go_ret
              exact ⟨rfl, HB8.out⟩
            · have HAT := Lib.hid (at_no k _ _ _ ps wr hkr (by omega))
              unfold prV at HAT
              rw [show str ([] : List UInt8) = ⟨#[]⟩ from rfl] at HAT
              clear hkr hrr hbl
              by_cases hk0 : 0 ≤ k
              · have f0 : decide (0 ≤ k) = true := by rw [decide_eq_true_eq]; exact hk0
                have f1 : decide (k < (ps.length : Int)) = false := by rw [decide_eq_false_iff_not]; omega
                clear hk hk0
                go_wp2_with fail
                (with_reducible refine HAT.out.mono ?_)
                rintro e w7 ⟨rfl, hb7⟩
                have hbw7 := HBW.out.trans (hb7.mono HBW.out.size)
                have hp8 : (w7.alloc (.cells #[.string ⟨#[]⟩, .string ⟨#[]⟩] 48)).heap[w7.heap.size]? = some (.cells #[.string ⟨#[]⟩, .string ⟨#[]⟩] 48 (0, 0)) := by
                  show (w7.heap.push _)[w7.heap.size]? = _
                  simp
                have HB8 := Lib.hid (hbw7.alloc hbw7.size (.cells #[.string ⟨#[]⟩, .string ⟨#[]⟩] 48))
                have HP8 := Lib.hid hp8
                clear hb7 hbw7 hp8
                go_upto_region 16 with (fail)
                generalize w7.alloc (.cells #[.string ⟨#[]⟩, .string ⟨#[]⟩] 48) = w8 at *
                have t0 := cellOf2 (o := 0) HP8.out rfl
                have t1 := cellOf2 (o := 1) HP8.out rfl
                go_wp2_with fail
                go_ret
                exact ⟨rfl, HB8.out⟩
              · have f0 : decide (0 ≤ k) = false := by rw [decide_eq_false_iff_not]; exact hk0
                clear hk hk0
                go_wp2_with fail
                (with_reducible refine HAT.out.mono ?_)
                rintro e w7 ⟨rfl, hb7⟩
                have hbw7 := HBW.out.trans (hb7.mono HBW.out.size)
                have hp8 : (w7.alloc (.cells #[.string ⟨#[]⟩, .string ⟨#[]⟩] 48)).heap[w7.heap.size]? = some (.cells #[.string ⟨#[]⟩, .string ⟨#[]⟩] 48 (0, 0)) := by
                  show (w7.heap.push _)[w7.heap.size]? = _
                  simp
                have HB8 := Lib.hid (hbw7.alloc hbw7.size (.cells #[.string ⟨#[]⟩, .string ⟨#[]⟩] 48))
                have HP8 := Lib.hid hp8
                clear hb7 hbw7 hp8
                go_upto_region 16 with (fail)
                generalize w7.alloc (.cells #[.string ⟨#[]⟩, .string ⟨#[]⟩] 48) = w8 at *
                have t0 := cellOf2 (o := 0) HP8.out rfl
                have t1 := cellOf2 (o := 1) HP8.out rfl
                go_wp2_with fail
                go_ret
                exact ⟨rfl, HB8.out⟩
end Go.Proofs.Ytcoicdaobgneeaa
