
/-
  The document's example.
-/
import Derived.Test.YtdbfaknpfepnfaaGreatDoorCurOneW
namespace Go.Proofs.YtdbfaknpfepnfaaGreatDoor
open Go.RowKit CodecP Cur

def exC : Array Value := #[.string (str (inn [97] 2)), .string ⟨#[68]⟩, .string (str (inn [97] 1)), .string ⟨#[80, 49]⟩, .string (str (inn [98] 1)), .string ⟨#[80, 50]⟩]
theorem ex_flat : exC.toList = flatR exL := rfl
/-- The example's list and sources, as they lie. -/
theorem ex_lis (w : World) : ∀ W, W = (w.alloc (.cells exC 43)).alloc (.cells #[.int .i64 1, .slice (some ⟨w.heap.size, 0, none⟩) 3 3, .pointer none, .int .i64 0] 46) →
    Below w.heap.size w W ∧ w.heap.size + 1 < W.heap.size ∧ Lis W W.heap.size ⟨.slice (some ⟨w.heap.size, 0, none⟩) 3 3, exL, 0⟩ ∧ ∀ j u, (flatS [⟨.slice (some ⟨w.heap.size, 0, none⟩) 3 3, exL, 0⟩])[j]? = some u → W.cell? ⟨w.heap.size + 1, j, none⟩ = some u := by
  rintro W rfl
  have h1 : (w.alloc (.cells exC 43)).heap[w.heap.size]? = some (.cells exC 43 (0, 0)) := by
    show (w.heap.push _)[w.heap.size]? = _
    simp
  have hs : (w.alloc (.cells exC 43)).heap.size = w.heap.size + 1 := by simp
  have hb : Below w.heap.size w (w.alloc (.cells exC 43)) := (Below.refl _ w).alloc (Nat.le_refl _) _
  have hb2 : Below (w.alloc (.cells exC 43)).heap.size (w.alloc (.cells exC 43)) ((w.alloc (.cells exC 43)).alloc (.cells #[.int .i64 1, .slice (some ⟨w.heap.size, 0, none⟩) 3 3, .pointer none, .int .i64 0] 46)) := (Below.refl _ _).alloc (Nat.le_refl _) _
  generalize w.alloc (.cells exC 43) = w1 at *
  have h2 : (w1.alloc (.cells #[.int .i64 1, .slice (some ⟨w.heap.size, 0, none⟩) 3 3, .pointer none, .int .i64 0] 46)).heap[w.heap.size + 1]? = some (.cells #[.int .i64 1, .slice (some ⟨w.heap.size, 0, none⟩) 3 3, .pointer none, .int .i64 0] 46 (0, 0)) := by
    rw [← hs]
    show (w1.heap.push _)[w1.heap.size]? = _
    simp
  refine ⟨hb.trans (hb2.mono (by omega)), by rw [← hs]; simp, ⟨_, 3, rfl, ⟨rfl, by simp, Nat.le_refl _, by unfold maxLen; omega, fun _ => ⟨w.heap.size, 0, rfl, ?_, fun j u hu => ?_⟩⟩, (by show exL.length ≤ 1000000; decide)⟩, fun j u hu => ?_⟩
  · have := hb2.size
    omega
  · rw [hb2.cell (p := ⟨w.heap.size, 0 + j, none⟩) (by show w.heap.size < _; omega), Nat.zero_add]
    refine cellOf2 h1 ?_
    rw [← Array.getElem?_toList, ex_flat]
    exact hu
  · refine cellOf2 h2 ?_
    rw [← Array.getElem?_toList]
    exact hu
set_option maxRecDepth 100000 in
set_option maxHeartbeats 4000000 in
theorem awake14_any (w : World) : Calls Tryz.prog 10 #[] w fun e w' => e = .returned (.bool true) ∧ Below w.heap.size w w' := by
  have hi : ∀ (a : UInt8) (n : Int) W, 0 ≤ n → n ≤ 5 → Calls Tryz.prog 13 #[.string ⟨#[a]⟩, .int .i64 n] W fun e w' => e = .returned (.string (str (inn [a] n))) ∧ Below W.heap.size W w' := fun a n W h0 h5 => inner_any ⟨#[a]⟩ n W (by show 1 ≤ _; omega) h0 (by omega)
  have HI := Lib.hid hi
  clear hi
  go_enter Tryz.func10, Tryz.ntmps10
  go_wp2_with fail
  (with_reducible refine (HI.out 97 2 _ (by omega) (by omega)).mono ?_)
  rintro e w1 ⟨rfl, hb1⟩
  go_wp2_with fail
  (with_reducible refine (HI.out 97 1 _ (by omega) (by omega)).mono ?_)
  rintro e w2 ⟨rfl, hb2⟩
  go_wp2_with fail
  (with_reducible refine (HI.out 98 1 _ (by omega) (by omega)).mono ?_)
  rintro e w3 ⟨rfl, hb3⟩
  have HB3 := Lib.hid ((hb1.trans (hb2.mono hb1.size)).trans (hb3.mono (Nat.le_trans hb1.size hb2.size)))
  clear hb1 hb2 hb3
  go_upto_region 2 with (fail)
  obtain ⟨hb4, hlt4, hl4, hc4⟩ := ex_lis w3 _ rfl
  have HB4 := Lib.hid (HB3.out.trans (hb4.mono HB3.out.size))
  clear hb4
  unfold exC at *
  generalize (w3.alloc _).alloc _ = w4 at *
  generalize w3.heap.size = lb at *
  obtain ⟨s, hs⟩ : ∃ s : Src, s = ⟨.slice (some ⟨lb, 0, none⟩) 3 3, exL, 0⟩ := ⟨_, rfl⟩
  rw [← hs] at hl4 hc4
  have hsl : s.l = exL := by rw [hs]
  have hs0 : s.at_ = 0 := by rw [hs]
  have HSL := Lib.hid hsl
  have HN := Lib.hid (fun W (hb : Below w4.heap.size w4 W) => new_one w4.heap.size (lb + 1) 1 s W (hl4.below hb) hb.size (fun j u hu => (hb.cell (p := ⟨lb + 1, j, none⟩) hlt4).trans (hc4 j u hu)))
  have hlen : s.l.length ≤ 1000000 := by rw [hsl]; decide
  have hne : ∀ k (h : k + 1 < s.l.length), s.l[k + 1].1 ≠ s.l[k].1 := by subst hs; exact ex_ne
  have HLEN := Lib.hid hlen
  have HNE := Lib.hid hne
  have HSS := Lib.hid (show s = { s with at_ := 0 } by rw [hs])
  have hst1 : settleF 1 [] (s.l.drop 0) = ([(inn [97] 1, [80, 49]), (inn [98] 1, [80, 50])], ⟨[97], [49], true, 0⟩) := by rw [List.drop_zero, hsl]; exact ex_1
  have hst2 : settleF 2 [] (s.l.drop 0) = ([(inn [98] 1, [80, 50])], ⟨[98], [50], true, 0⟩) := by rw [List.drop_zero, hsl]; exact ex_2
  have hfit : fitsR (s.l.drop 0) := by rw [List.drop_zero, hsl]; exact ex_fits
  have HT1 := Lib.hid hst1
  have HT2 := Lib.hid hst2
  have HFIT := Lib.hid hfit
  clear hl4 hc4 hlt4 hs hsl hs0 hlen hne hst1 hst2 hfit
  go_wp2_with fail
  refine (HN.out w4 (Below.refl _ _)).mono ?_
  rintro e w5 ⟨p1, S1, rfl, hm5, hs5, hb5⟩
  rw [HSS.out] at hm5
  have M5 := Lib.hid (show (oneK w4.heap.size p1 s HLEN.out HNE.out).M w5 S1 [] from .inr ⟨0, _, hm5, rfl⟩)
  have HB5 := Lib.hid hb5
  have HS5 := Lib.hid hs5
  clear hm5 hs5 hb5
  go_wp2_with fail
  refine (newView_any _ 1 S1 _ w5 M5.out).mono ?_
  rintro e w6 ⟨v1, rfl, hv6, hb6, hlv6⟩
  have HB6 := Lib.hid (HB5.out.trans (hb6.mono HB5.out.size))
  have HV6 := Lib.hid hv6
  have HL6 := Lib.hid hlv6
  clear hv6 hb6 hlv6
  go_wp2_with fail
  refine (HN.out w6 HB6.out).mono ?_
  rintro e w7 ⟨p2, S2, rfl, hm7, hs7, hb7⟩
  rw [HSS.out] at hm7
  have M7 := Lib.hid (show (oneK w4.heap.size p2 s HLEN.out HNE.out).M w7 S2 [] from .inr ⟨0, _, hm7, rfl⟩)
  have HB7 := Lib.hid hb7
  have HS7 := Lib.hid hs7
  have HV7 := Lib.hid (HV6.out.keep hb7)
  clear hm7 hs7 hb7
  go_wp2_with fail
  refine (newView_any _ 2 S2 _ w7 M7.out).mono ?_
  rintro e w8 ⟨v2, rfl, hv8, hb8, hlv8⟩
  have HV8 := Lib.hid hv8
  have HW8 := Lib.hid (HV7.out.keep hb8)
  have HB8 := Lib.hid (HB4.out.trans (((HB6.out.trans (HB7.out.mono HB6.out.size)).trans (hb8.mono (Nat.le_trans HB6.out.size HB7.out.size))).mono HB4.out.size))
  have hsz7 := HB7.out.size
  have hlt6 := lt_of_block HV6.out.cells
  have hS1lt : ∀ k, S1 k → k < w6.heap.size := fun k hk => (oneK w4.heap.size p1 s HLEN.out HNE.out).lt HV6.out.m k hk
  have hS2lt : ∀ k, S2 k → k < w8.heap.size := fun k hk => (oneK w4.heap.size p2 s HLEN.out HNE.out).lt HV8.out.m k hk
  have HB48 := Lib.hid ((HB6.out.trans (HB7.out.mono HB6.out.size)).trans (hb8.mono (Nat.le_trans HB6.out.size HB7.out.size)))
  have hsk1 := oneK_seek HW8.out.m ⟨#[]⟩ 0 (Nat.zero_le _) (fun i _ h => absurd h (Nat.not_lt_zero _)) (fun i _ _ h => absurd h (by simp [bl]))
  have H9 := Lib.hid (vwSeek_any _ v1 1 S1 _ _ w8 ⟨#[]⟩ (s.l.drop 0) HW8.out rfl HFIT.out hsk1)
  rw [HT1.out] at H9
  clear hsk1
  go_wp2_with fail
  refine H9.out.mono ?_
  rintro e w9 ⟨rfl, hf9, S9, hv9, hs9⟩
  have hoth : Vw _ w9 v2 2 S2 _ _ := HV8.out.other hf9 (fun k hk _ => by
    have h1 : w6.heap.size ≤ v2 := by omega
    rcases hk with rfl | hk
    · have h2 := HL6.out
      refine ⟨HV6.out.base, fun h => ?_, fun h => ?_⟩
      · have := HS7.out _ h
        omega
      · omega
    · have h2 := hS1lt k hk
      refine ⟨HS5.out k hk, fun h => ?_, fun h => ?_⟩
      · have := HS7.out _ h
        omega
      · omega)
  have HV9 := Lib.hid hv9
  have HO9 := Lib.hid hoth
  have HF9 := Lib.hid hf9
  have HB9 := Lib.hid (HB8.out.trans (HF9.out.below HB8.out.size (fun k _ hk => by
    have h1 := HB4.out.size
    rcases hk with rfl | hk
    · exact Nat.le_trans h1 HV6.out.base
    · exact Nat.le_trans h1 (HS5.out k hk))))
  have hsz9 := HF9.out.size
  have hS9 : ∀ k, S9 k → (k = v1 ∨ S1 k) ∨ w8.heap.size ≤ k := fun k hk => (hs9 k hk).imp .inr id
  have HS9 := Lib.hid hS9
  clear hf9 hv9 hs9 hoth hS9
  have hsk2 := oneK_seek HO9.out.m ⟨#[]⟩ 0 (Nat.zero_le _) (fun i _ h => absurd h (Nat.not_lt_zero _)) (fun i _ _ h => absurd h (by simp [bl]))
  have H10 := Lib.hid (vwSeek_any _ v2 2 S2 _ _ w9 ⟨#[]⟩ (s.l.drop 0) HO9.out rfl HFIT.out hsk2)
  rw [HT2.out] at H10
  clear hsk2
  go_wp2_with fail
  refine H10.out.mono ?_
  rintro e w10 ⟨rfl, hf10, S10, hv10, hs10⟩
  have hoth : Vw _ w10 v1 1 S9 _ _ := HV9.out.other hf10 (fun k hk hlt => by
    have h1 : w6.heap.size ≤ v2 := by omega
    have h8 : w6.heap.size ≤ w8.heap.size := by have := hb8.size; omega
    have hv28 := lt_of_block HV8.out.cells
    rcases hk with rfl | hk
    · refine ⟨HO9.out.base, fun h => ?_, fun h => ?_⟩
      · rcases HS9.out _ h with (h | h) | h
        · omega
        · have := hS1lt _ h
          omega
        · omega
      · omega
    · have h2 := HS7.out k hk
      have h3 := hS2lt k hk
      refine ⟨Nat.le_trans HB6.out.size h2, fun h => ?_, fun h => ?_⟩
      · rcases HS9.out _ h with (h | h) | h
        · omega
        · have := hS1lt _ h
          omega
        · omega
      · omega)
  have HB10 := Lib.hid (HB9.out.trans (hf10.below HB9.out.size (fun k _ hk => by
    have h1 := HB4.out.size
    have h2 := HB6.out.size
    rcases hk with rfl | hk
    · omega
    · have := HS7.out k hk
      omega)))
  have HK1 := Lib.hid (vwKey_any _ v1 1 S9 _ _ w10 hoth)
  have HV1 := Lib.hid (vwValue_any _ v1 1 S9 _ _ w10 hoth)
  have HK2 := Lib.hid (vwKey_any _ v2 2 S10 _ _ w10 hv10)
  have HV2 := Lib.hid (vwValue_any _ v2 2 S10 _ _ w10 hv10)
  dsimp only at HK1 HV1 HK2 HV2
  simp only [Bool.true_and, beq_self_eq_true, if_true] at HK1 HV1 HK2 HV2
  rw [show str [97] = (⟨#[97]⟩ : ByteArray) from rfl] at HK1
  rw [show str [49] = (⟨#[49]⟩ : ByteArray) from rfl] at HV1
  rw [show str [98] = (⟨#[98]⟩ : ByteArray) from rfl] at HK2
  rw [show str [50] = (⟨#[50]⟩ : ByteArray) from rfl] at HV2
  clear hf10 hv10 hs10 hoth hb8 hv8 hlv8 hsz7 hlt6 hS1lt hS2lt hsz9
  go_wp2_with fail
  (with_reducible refine HK1.out.mono ?_)
  rintro e w11 ⟨rfl, rfl⟩
  go_wp2_with fail
  (with_reducible refine HV1.out.mono ?_)
  rintro e w11 ⟨rfl, rfl⟩
  go_wp2_with fail
  (with_reducible refine HK2.out.mono ?_)
  rintro e w11 ⟨rfl, rfl⟩
  go_wp2_with fail
  (with_reducible refine HV2.out.mono ?_)
  rintro e w11 ⟨rfl, rfl⟩
  go_wp2_with fail
  go_ret
  exact ⟨rfl, HB10.out⟩
end Go.Proofs.YtdbfaknpfepnfaaGreatDoor
