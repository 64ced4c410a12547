/-
  The walk of the law CodecTakes.
-/
import Derived.Test.YtbdocgnhoomhcaaTake2W
namespace Go.Proofs.Ytbdocgnhoomhcaa
open Go.RowKit CodecP

/-- A list of asks, as it lies. -/
structure AsksAt (w : World) (b off : Nat) (L : List (Int × Int)) : Prop where
  c0 : ∀ i, i < L.length → w.cell? ⟨b, off + i * 2, none⟩ = some (.int .i64 (L.getD i (0, 0)).1)
  c1 : ∀ i, i < L.length → w.cell? ⟨b, off + i * 2 + 1, none⟩ = some (.int .i64 (L.getD i (0, 0)).2)
  lt : b < w.heap.size
theorem AsksAt.below {w w' : World} {B b off : Nat} {L : List (Int × Int)} (h : AsksAt w b off L) (hb : Below B w w') (hB : b < B) : AsksAt w' b off L :=
  ⟨fun i hi => by rw [hb.cell (p := ⟨b, off + i * 2, none⟩) hB]; exact h.c0 i hi, fun i hi => by rw [hb.cell (p := ⟨b, off + i * 2 + 1, none⟩) hB]; exact h.c1 i hi, Nat.lt_of_lt_of_le h.lt hb.size⟩
def Asks (w : World) (v : Value) (L : List (Int × Int)) : Prop := ∃ ao cap, v = .slice ao L.length cap ∧ L.length ≤ maxLen ∧ (L ≠ [] → ∃ b off, ao = some ⟨b, off, none⟩ ∧ AsksAt w b off L)
theorem ask_rest {k N : Int} {l : List UInt8} {v : Nat} {t r : List UInt8} (h : ask k N l = some (v, t, r)) : ∃ K, K ≤ l.length ∧ r = l.drop K := by
  have key : ∀ n x, tk 0 l = some (n, x) → ∃ K, K ≤ l.length ∧ x = l.drop K := by
    intro n x hx
    obtain ⟨e, _⟩ := grp_tk _ _ _ hx
    exact ⟨(grp n).length, by rw [e, List.length_append]; omega, by rw [e, List.drop_left]⟩
  unfold ask at h
  split at h
  · split at h
    · cases h
    · rename_i n x hx
      split at h
      · cases h
      · simp only [Option.some.injEq, Prod.mk.injEq] at h
        obtain ⟨_, _, rfl⟩ := h
        exact key _ _ hx
  split at h
  · split at h
    · cases h
    · rename_i n x hx
      simp only [Option.some.injEq, Prod.mk.injEq] at h
      obtain ⟨_, _, rfl⟩ := h
      exact key _ _ hx
  split at h
  · split at h
    · cases h
    · simp only [Option.some.injEq, Prod.mk.injEq] at h
      exact ⟨4, by omega, h.2.2.symm⟩
  split at h
  · split at h
    · cases h
    · simp only [Option.some.injEq, Prod.mk.injEq] at h
      exact ⟨8, by omega, h.2.2.symm⟩
  split at h
  · split at h
    · cases h
    · rename_i n x hx
      split at h
      · cases h
      · rename_i hc
        simp only [Option.some.injEq, Prod.mk.injEq] at h
        obtain ⟨_, _, rfl⟩ := h
        obtain ⟨K, hK, rfl⟩ := key _ _ hx
        refine ⟨K + n, ?_, by rw [List.drop_drop]⟩
        rw [List.length_drop] at hc
        omega
  · split at h
    · cases h
    · simp only [Option.some.injEq, Prod.mk.injEq] at h
      exact ⟨N.toNat, by omega, h.2.2.symm⟩
theorem askO_no {k N : Int} {l : List UInt8} (h : ask k N l = none) : askO k N (some l) = (0, [], none) := by unfold askO; simp [h]
theorem askO_yes {k N : Int} {l : List UInt8} {v : Nat} {t r : List UInt8} (h : ask k N l = some (v, t, r)) : askO k N (some l) = (v, t, some r) := by unfold askO; simp [h]

set_option maxRecDepth 100000 in
set_option maxHeartbeats 1000000 in
theorem codecTakes_main (s : ByteArray) (v : Value) (L : List (Int × Int)) (w : World) (hL : Asks w v L) (hs : s.size ≤ 5000) (hl : L.length ≤ 100) :
    Calls Try.prog 6 #[.string s, v] w fun e w' => e = .returned (.bool true) ∧ Below w.heap.size w w' := by
  obtain ⟨ao, cap, rfl, -, hk⟩ := hL
  have HK := Lib.hid hk
  have hse : (str []).toList = [] := by rw [ByteArray.toList_eq]; rfl
  clear hk
  go_enter Try.func6, Try.ntmps6
  go_wp2_with fail
  (with_reducible refine (codecAwake_any _).mono ?_)
  rintro e w1 ⟨rfl, hb1⟩
  have HB1 := Lib.hid hb1
  clear hb1
  go_wp2_with fail
  (with_reducible refine (read_any s _ (size_le _ (by omega))).mono ?_)
  rintro e w2 ⟨rfl, h2, hb2⟩
  have R0 := ROwn.new HB1.out h2 hb2 (Nat.le_refl _)
  have HR0 := Lib.hid R0
  clear h2 hb2 R0
  generalize w1.heap.size = p at *
  go_wp2_with fail
  go_loopw [0, 6, 7] (fun sv bv iv wr => ∃ (i : Nat) (cur : ByteArray) (bad : Bool), i ≤ L.length ∧ iv = .int .i64 i ∧ sv = .string cur ∧ bv = .bool bad ∧ cur.size ≤ 5000 ∧ ROwn w wr p (if bad then none else some (bl cur))) (fun _ _ iv _ => L.length - (intOf iv).toNat)
  case atStart => exact ⟨0, s, false, by omega, rfl, rfl, rfl, hs, HR0.out⟩
  case round =>
    obtain ⟨i, cur, bad, hi, rfl, rfl, rfl, hcur, hR⟩ := hrel
    by_cases hlt : i < L.length
    · obtain ⟨b, off, rfl, hA⟩ := HK.out (by rintro rfl; simp at hlt)
      have hA1 := hA.below hR.below hA.lt
      have c0 := hA1.c0 i hlt
      have c1 := hA1.c1 i hlt
      have HA := Lib.hid hA
      clear hA hA1
      generalize hq : L.getD i (0, 0) = q at *
      obtain ⟨k, N⟩ := q
      have HQ := Lib.hid hq
      dsimp only at c0 c1
      clear hq
      have TK := fun W => takes_any cur k N W (by omega)
      have HTK := Lib.hid TK
      clear TK
      cases bad
      · rw [if_neg (by decide)] at hR
        have TA := fun W h => take_any p (str (bl cur)) false k N W h
        rw [st_false, bl_str] at TA
        have HTA := Lib.hid TA
        have HR := Lib.hid hR
        clear hR TA
        rcases ha : ask k N (bl cur) with _ | ⟨x, t, r⟩
        · have e1 := askO_no ha
          have e2 : takesR k N (bl cur) = (0, [], -1) := by unfold takesR; rw [ha]
          have HE1 := Lib.hid e1
          have HE2 := Lib.hid e2
          clear ha e1 e2
          go_wp2_with fail
          refine (HTA.out _ HR.out.some).mono ?_
          rintro e w3 ⟨rfl, k3⟩
          rw [HE1.out] at k3 ⊢
          have HR3 := Lib.hid (HR.out.step k3)
          have c0 := (HA.out.below HR3.out.below HA.out.lt).c0 i hlt
          have c1 := (HA.out.below HR3.out.below HA.out.lt).c1 i hlt
          rw [HQ.out] at c0 c1
          dsimp only at c0 c1
          clear k3
          go_wp2_with fail
          refine (HTK.out _).mono ?_
          rintro e w4 ⟨rfl, hb4⟩
          rw [HE2.out]
          have HR4 := Lib.hid (HR3.out.keep hb4)
          clear hb4
          obtain ⟨sy, hy⟩ := HR4.out.none
          have HY := Lib.hid hy
          clear hy
          go_wp2_with fail
          refine (good_any p sy true _ HY.out).mono ?_
          rintro e w5 ⟨rfl, rfl⟩
          go_wp2_with fail
          refine (left_any p sy true _ HY.out).mono ?_
          rintro e w5 ⟨rfl, rfl⟩
          rw [if_pos rfl]
          go_wp2_with fail
          refine (end_any p sy true _ HY.out).mono ?_
          rintro e w5 ⟨rfl, rfl⟩
          go_wp2
          go_roundw
          case rel => exact ⟨i + 1, cur, true, by omega, by go_num, rfl, rfl, hcur, HR4.out⟩
          case measure => simp [intOf]; omega
        · have e1 := askO_yes ha
          obtain ⟨K, hK, hr⟩ := ask_rest ha
          have hbl : (bl cur).length = cur.size := rfl
          rw [hbl] at hK
          have hsz : (cur.extract K cur.size).size = cur.size - K := by rw [ByteArray.size_extract]; omega
          have hr2 : r = bl (cur.extract K cur.size) := by rw [hr, ext_bl, List.take_of_length_le (by rw [List.length_drop]; omega)]
          have e2 : takesR k N (bl cur) = (x, t, (K : Int)) := by
            unfold takesR; rw [ha]; dsimp only; rw [hr, List.length_drop, hbl, show (cur.size : Int) - ((cur.size - K : Nat) : Int) = (K : Int) by omega]
          rw [hr2] at e1
          have q1 : ((cur.extract K cur.size).size : Int) = (cur.size : Int) - (K : Int) := by omega
          have hkk : decide ((K : Int) < 0) = false := by rw [decide_eq_false_iff_not]; omega
          have HE1 := Lib.hid e1
          have HE2 := Lib.hid e2
          have HSZ := Lib.hid hsz
          clear ha e1 e2 hsz hr hr2 hbl q1
          go_wp2_with fail
          refine (HTA.out _ HR.out.some).mono ?_
          rintro e w3 ⟨rfl, k3⟩
          rw [HE1.out] at k3 ⊢
          have HR3 := Lib.hid (HR.out.step k3)
          have c0 := (HA.out.below HR3.out.below HA.out.lt).c0 i hlt
          have c1 := (HA.out.below HR3.out.below HA.out.lt).c1 i hlt
          rw [HQ.out] at c0 c1
          dsimp only at c0 c1
          clear k3
          go_wp2_with fail
          refine (HTK.out _).mono ?_
          rintro e w4 ⟨rfl, hb4⟩
          rw [HE2.out]
          have HR4 := Lib.hid (HR3.out.keep hb4)
          clear hb4
          have hn := HR4.out.some
          rw [str_bl] at hn
          have HY := Lib.hid hn
          clear hn
          go_wp2_with fail
          refine (good_any p _ false _ HY.out).mono ?_
          rintro e w5 ⟨rfl, rfl⟩
          go_wp2_with fail
          refine (left_any p _ false _ HY.out).mono ?_
          rintro e w5 ⟨rfl, rfl⟩
          rw [if_neg (by decide), HSZ.out]
          go_wp2_with fail
          refine (end_any p _ false _ HY.out).mono ?_
          rintro e w5 ⟨rfl, rfl⟩
          rw [HSZ.out]
          have qd : (((cur.size - K : Nat) : Int) == 0) = (cur.size - K == 0) := by rw [Bool.eq_iff_iff, beq_iff_eq, beq_iff_eq]; omega
          go_wp2
          go_roundw
          case rel => exact ⟨i + 1, cur.extract K cur.size, false, by omega, by go_num, rfl, rfl, by rw [HSZ.out]; omega, HR4.out⟩
          case measure => simp [intOf]; omega
      · rw [if_pos rfl] at hR
        obtain ⟨sx, hx⟩ := hR.none
        have TA := take_any p sx true k N _ hx
        rw [st_true, askO_none] at TA
        have HX := Lib.hid TA
        have HR := Lib.hid hR
        clear hx hR TA
        go_wp2_with fail
        refine HX.out.mono ?_
        rintro e w3 ⟨rfl, k3⟩
        have HR3 := Lib.hid (HR.out.step k3)
        have c0 := (HA.out.below HR3.out.below HA.out.lt).c0 i hlt
        have c1 := (HA.out.below HR3.out.below HA.out.lt).c1 i hlt
        rw [HQ.out] at c0 c1
        dsimp only at c0 c1
        clear k3
        go_wp2_with fail
        refine (HTK.out _).mono ?_
        rintro e w4 ⟨rfl, hb4⟩
        generalize takesR k N (bl cur) = T
        obtain ⟨x, t, q⟩ := T
        dsimp only
        have HR4 := Lib.hid (HR3.out.keep hb4)
        clear hb4
        obtain ⟨sy, hy⟩ := HR4.out.none
        have HY := Lib.hid hy
        clear hy
        go_wp2_with fail
        refine (good_any p sy true _ HY.out).mono ?_
        rintro e w5 ⟨rfl, rfl⟩
        go_wp2_with fail
        refine (left_any p sy true _ HY.out).mono ?_
        rintro e w5 ⟨rfl, rfl⟩
        rw [if_pos rfl]
        go_wp2_with fail
        refine (end_any p sy true _ HY.out).mono ?_
        rintro e w5 ⟨rfl, rfl⟩
        go_wp2
        go_roundw
        case rel => exact ⟨i + 1, cur, true, by omega, by go_num, rfl, rfl, hcur, HR4.out⟩
        case measure => simp [intOf]; omega
    · obtain rfl : i = L.length := by omega
      have hbel := hR.below
      clear hR
      go_wp2
      go_ret
      exact ⟨rfl, hbel⟩
theorem codecTakes_law (s : ByteArray) (v : Value) (L : List (Int × Int)) (w : World) (hs : s.size ≤ maxLen) (hL : Asks w v L) :
    Calls Try.prog 6 #[.string s, v] w fun e w' => e = .returned (.bool true) ∧ Below w.heap.size w w' := by
  by_cases h1 : 5000 < s.size
  · obtain ⟨ao, cap, rfl, hm, -⟩ := hL
    unfold maxLen at hs hm
    go_enter Try.func6, Try.ntmps6
    go_wp2_with fail
    (with_reducible refine (codecAwake_any _).mono ?_)
    rintro e w1 ⟨rfl, hb⟩
    go_wp2
    go_ret
    exact ⟨rfl, hb⟩
  · by_cases h2 : 100 < L.length
    · obtain ⟨ao, cap, rfl, hm, -⟩ := hL
      unfold maxLen at hs hm
      go_enter Try.func6, Try.ntmps6
      go_wp2_with fail
      (with_reducible refine (codecAwake_any _).mono ?_)
      rintro e w1 ⟨rfl, hb⟩
      go_wp2
      go_ret
      exact ⟨rfl, hb⟩
    · exact codecTakes_main s v L w hL (by omega) (by omega)
end Go.Proofs.Ytbdocgnhoomhcaa
