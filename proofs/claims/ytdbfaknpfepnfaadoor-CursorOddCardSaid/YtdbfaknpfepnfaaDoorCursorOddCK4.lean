/-
  Texts of the claim, joined: CurOddW.
-/
import Derived.Test.YtdbfaknpfepnfaaDoorCursorOddCK3

/-
  The law of odd keys and values.
-/
namespace Go.Proofs.YtdbfaknpfepnfaaDoor
open Go.RowKit CodecP Cur

theorem drop_nil (ls : List (List Pr)) : (ls.map fun l => l.dropWhile fun p => decide (p.1 < ([] : List UInt8))) = ls := by
  refine (List.map_congr_left fun l _ => ?_).trans (List.map_id _)
  cases l with
  | nil => rfl
  | cons a l =>
    rw [List.dropWhile_cons, if_neg (by simp)]
    rfl
theorem two_mem (a b x : Pr) : (∃ i, ∃ h : i < [[a], [b]].length, x ∈ [[a], [b]][i] ∧ ∀ j, ∀ h' : j < [[a], [b]].length, j < i → ∀ y ∈ [[a], [b]][j], y.1 ≠ x.1) ↔ (x = a ∨ (x = b ∧ a.1 ≠ b.1)) := by
  constructor
  · rintro ⟨i, h, hm, hj⟩
    match i, h with
    | 0, _ => exact .inl (by simpa using hm)
    | 1, _ =>
      have hx : x = b := by simpa using hm
      refine .inr ⟨hx, ?_⟩
      have := hj 0 (by simp) (by omega) a (by simp)
      rw [hx] at this
      exact this
  · rintro (rfl | ⟨rfl, h⟩)
    · exact ⟨0, by simp, by simp, fun j _ h => absurd h (Nat.not_lt_zero _)⟩
    · refine ⟨1, by simp, by simp, fun j h' hj y hy => ?_⟩
      obtain rfl : j = 0 := by omega
      have : y = a := by simpa using hy
      rw [this]
      exact h
theorem two_eq {a b : Pr} (h : a.1 = b.1) : IsM [[a], [b]] [a] := by
  refine ⟨by simp [Srt], fun x => ?_⟩
  rw [two_mem]
  simp [h]
theorem two_lt {a b : Pr} (h : a.1 < b.1) : IsM [[a], [b]] [a, b] := by
  refine ⟨by simpa [Srt] using h, fun x => ?_⟩
  rw [two_mem]
  have : a.1 ≠ b.1 := fun e => by
    rw [e] at h
    exact List.lt_irrefl _ h
  simp [this]
theorem two_gt {a b : Pr} (h : b.1 < a.1) : IsM [[a], [b]] [b, a] := by
  refine ⟨by simpa [Srt] using h, fun x => ?_⟩
  rw [two_mem]
  have : a.1 ≠ b.1 := fun e => by
    rw [e] at h
    exact List.lt_irrefl _ h
  simp [this, or_comm]
theorem odd_first {K : List UInt8} (hK : OkK K 1) (r : List Pr) : settleF 5 [] ((inn K 1, [80, 120]) :: r) = ((inn K 1, [80, 120]) :: r, ⟨K, [120], true, 0⟩) := by
  have h1 : K ≠ [] := fun e => by
    have := hK.1
    rw [e] at this
    exact absurd this (by simp)
  simp [settleF, unp_inn hK, goodV, h1]
theorem odd_bad {O V : List UInt8} (h : unp O = none ∨ goodV V = false) (seq : Int) (last : List UInt8) (r : List Pr) : settleF seq last ((O, V) :: r) = ((O, V) :: r, ⟨[], [], false, 9⟩) := by
  unfold settleF
  dsimp only
  cases hu : unp O with
  | none => rfl
  | some kn =>
    rcases h with h | h
    · rw [hu] at h; cases h
    · dsimp only
      rw [if_pos h]
theorem odd_next {K O V : List UInt8} (hK : OkK K 1) (h : unp O = none ∨ goodV V = false) : settleF 5 K [(inn K 1, [80, 120]), (O, V)] = ([(O, V)], ⟨[], [], false, 9⟩) := by
  have : settleF 5 K [(inn K 1, [80, 120]), (O, V)] = settleF 5 K [(O, V)] := by
    rw [settleF]
    simp [unp_inn hK, goodV]
  rw [this, odd_bad h]
theorem lis_one {W : World} {b B : Nat} {k v : List UInt8} (hb : W.heap[b]? = some (.cells #[.string (str k), .string (str v)] 28 (0, 0))) (hB : b < B) : Lis W B ⟨.slice (some ⟨b, 0, none⟩) 1 1, [(k, v)], 0⟩ := by
  refine ⟨_, 1, rfl, ⟨rfl, by simp, Nat.le_refl _, by unfold maxLen; omega, fun _ => ⟨b, 0, rfl, hB, fun j u hu => ?_⟩⟩, by show 1 ≤ 1000000; omega⟩
  refine cellOf2 hb ?_
  rw [← Array.getElem?_toList, Nat.zero_add]
  exact hu
/-- Two lists of one pair each, and a merge of them. -/
theorem new_two (w : World) (k1 v1 k2 v2 : List UInt8) (a1 a2 a3 a4 : ByteArray) (e1 : a1 = str k1) (e2 : a2 = str v1) (e3 : a3 = str k2) (e4 : a4 = str v2) :
    ∀ U, U = ((w.alloc (.cells #[.string a1, .string a2] 28)).alloc (.cells #[.string a3, .string a4] 28)).alloc (.cells #[.int .i64 1, .slice (some ⟨w.heap.size, 0, none⟩) 1 1, .pointer none, .int .i64 0, .int .i64 1, .slice (some ⟨w.heap.size + 1, 0, none⟩) 1 1, .pointer none, .int .i64 0] 36) →
    Below w.heap.size w U ∧ Calls Tryd.prog 10 #[.slice (some ⟨w.heap.size + 1 + 1, 0, none⟩) 2 2] U fun e w' => ∃ p S, e = .returned ((Value.pointer (some ⟨p, 0, none⟩))) ∧ Mg U.heap.size w' p S ⟨[⟨.slice (some ⟨w.heap.size, 0, none⟩) 1 1, [(k1, v1)], 0⟩, ⟨.slice (some ⟨w.heap.size + 1, 0, none⟩) 1 1, [(k2, v2)], 0⟩], [], List.replicate 2 []⟩ ∧ (∀ k, S k → U.heap.size ≤ k) ∧ Below U.heap.size U w' := by
  rintro U rfl
  subst e1 e2 e3 e4
  have h1 : (w.alloc (.cells #[.string (str k1), .string (str v1)] 28)).heap[w.heap.size]? = some (.cells #[.string (str k1), .string (str v1)] 28 (0, 0)) := by
    show (w.heap.push _)[w.heap.size]? = _
    simp
  have hs : (w.alloc (.cells #[.string (str k1), .string (str v1)] 28)).heap.size = w.heap.size + 1 := by simp
  have hb : Below w.heap.size w (w.alloc (.cells #[.string (str k1), .string (str v1)] 28)) := (Below.refl _ w).alloc (Nat.le_refl _) _
  generalize w.alloc (.cells #[.string (str k1), .string (str v1)] 28) = w1 at *
  have h2 : (w1.alloc (.cells #[.string (str k2), .string (str v2)] 28)).heap[w.heap.size + 1]? = some (.cells #[.string (str k2), .string (str v2)] 28 (0, 0)) := by
    rw [← hs]
    show (w1.heap.push _)[w1.heap.size]? = _
    simp
  have hs2 : (w1.alloc (.cells #[.string (str k2), .string (str v2)] 28)).heap.size = w.heap.size + 1 + 1 := by rw [← hs]; simp
  have hb2 : Below w1.heap.size w1 (w1.alloc (.cells #[.string (str k2), .string (str v2)] 28)) := (Below.refl _ w1).alloc (Nat.le_refl _) _
  generalize w1.alloc (.cells #[.string (str k2), .string (str v2)] 28) = w2 at *
  have h3 : ∀ c, (w2.alloc (.cells c 36)).heap[w.heap.size + 1 + 1]? = some (.cells c 36 (0, 0)) := fun c => by
    rw [← hs2]
    show (w2.heap.push _)[w2.heap.size]? = _
    simp
  have hs3 : ∀ c, (w2.alloc (.cells c 36)).heap.size = w.heap.size + 1 + 1 + 1 := fun c => by rw [← hs2]; simp
  have hb3 : ∀ c, Below w2.heap.size w2 (w2.alloc (.cells c 36)) := fun c => (Below.refl _ w2).alloc (Nat.le_refl _) _
  have h13 : ∀ c, (w2.alloc (.cells c 36)).heap[w.heap.size]? = some (.cells #[.string (str k1), .string (str v1)] 28 (0, 0)) := fun c =>
    ((hb3 c).block _ (by omega)).trans ((hb2.block _ (by omega)).trans h1)
  have h23 : ∀ c, (w2.alloc (.cells c 36)).heap[w.heap.size + 1]? = some (.cells #[.string (str k2), .string (str v2)] 28 (0, 0)) := fun c =>
    ((hb3 c).block _ (by omega)).trans h2
  refine ⟨hb.trans ((hb2.trans ((hb3 _).mono hb2.size)).mono (by omega)), new_any _ (w.heap.size + 1 + 1) 2 2 _ _ (fun s hs' => ?_) (Nat.le_refl _) rfl (by omega) (fun j u hu => cellOf2 (h3 _) ?_)⟩
  · simp only [List.mem_cons, List.not_mem_nil, or_false] at hs'
    rcases hs' with rfl | rfl
    · exact lis_one (h13 _) (by rw [hs3]; omega)
    · exact lis_one (h23 _) (by rw [hs3]; omega)
  · rw [← Array.getElem?_toList]
    exact hu
set_option maxRecDepth 100000 in
set_option maxHeartbeats 4000000 in
theorem cursorOdd_law (key odd value : ByteArray) (w : World) (hkm : key.size ≤ maxLen) (hom : odd.size ≤ maxLen) (hvm : value.size ≤ maxLen) :
    Calls Tryd.prog 3 #[.string key, .string odd, .string value] w fun e w' => e = .returned (.bool true) ∧ Below w.heap.size w w' := by
  obtain ⟨O, rfl⟩ : ∃ O, odd = str O := ⟨bl odd, (str_bl odd).symm⟩
  obtain ⟨K, rfl⟩ : ∃ K, key = str K := ⟨bl key, (str_bl key).symm⟩
  obtain ⟨V, hVV⟩ : ∃ V, value = str V := ⟨bl value, (str_bl value).symm⟩
  have HVV := Lib.hid hVV
  clear hVV
  unfold maxLen at hkm hom hvm
  have HAW := Lib.hid awake14_any
  have hrt := lawRight_any (str K) 1 w (by unfold maxLen; omega)
  rw [bl_str] at hrt
  by_cases hK : OkK K 1
  case neg =>
    rw [decide_eq_false hK] at hrt
    have HRT := Lib.hid hrt
    clear hrt hK
    go_enter Tryd.func3, Tryd.ntmps3
    go_wp2_with fail
    (with_reducible refine (HRT.out).mono ?_)
    rintro e w1 ⟨rfl, rfl⟩
    go_wp2_with fail
    (with_reducible refine (HAW.out _).mono ?_)
    rintro e w1 ⟨rfl, hb1⟩
    have HB1 := Lib.hid hb1
    clear hb1
    go_wp2_with fail
    go_ret
    exact ⟨rfl, HB1.out⟩
  rw [decide_eq_true hK] at hrt
  have HRT := Lib.hid hrt
  clear hrt
  have HK := Lib.hid hK
  clear hK
  by_cases ho : 80 < (str O).size
  · have d1 : decide ((80 : Int) < ((str O).size : Int)) = true := by rw [decide_eq_true_eq]; omega
    clear ho
    go_enter Tryd.func3, Tryd.ntmps3
    go_wp2_with fail
    (with_reducible refine (HRT.out).mono ?_)
    rintro e w1 ⟨rfl, rfl⟩
    go_wp2_with fail
    (with_reducible refine (HAW.out _).mono ?_)
    rintro e w1 ⟨rfl, hb1⟩
    have HB1 := Lib.hid hb1
    clear hb1
    go_wp2_with fail
    go_ret
    exact ⟨rfl, HB1.out⟩
  have d1 : decide ((80 : Int) < ((str O).size : Int)) = false := by rw [decide_eq_false_iff_not]; omega
  by_cases hz : (str O).size = 0
  · have d2 : (((str O).size : Int) == 0) = true := by rw [beq_iff_eq]; omega
    clear ho
    go_enter Tryd.func3, Tryd.ntmps3
    go_wp2_with fail
    (with_reducible refine (HRT.out).mono ?_)
    rintro e w1 ⟨rfl, rfl⟩
    go_wp2_with fail
    (with_reducible refine (HAW.out _).mono ?_)
    rintro e w1 ⟨rfl, hb1⟩
    have HB1 := Lib.hid hb1
    clear hb1
    go_wp2_with fail
    go_ret
    exact ⟨rfl, HB1.out⟩
  have d2 : (((str O).size : Int) == 0) = false := by rw [beq_eq_false_iff_ne]; omega
  by_cases hv : 300 < value.size
  · have d3 : decide ((300 : Int) < (value.size : Int)) = true := by rw [decide_eq_true_eq]; omega
    clear ho hz hv
    go_enter Tryd.func3, Tryd.ntmps3
    go_wp2_with fail
    (with_reducible refine (HRT.out).mono ?_)
    rintro e w1 ⟨rfl, rfl⟩
    go_wp2_with fail
    (with_reducible refine (HAW.out _).mono ?_)
    rintro e w1 ⟨rfl, hb1⟩
    have HB1 := Lib.hid hb1
    clear hb1
    go_wp2_with fail
    go_ret
    exact ⟨rfl, HB1.out⟩
  have d3 : decide ((300 : Int) < (value.size : Int)) = false := by rw [decide_eq_false_iff_not]; omega
  have HUN := Lib.hid (fun W => unpack_any (str O) W (by unfold maxLen; omega))
  have hfo : O.length ≤ 1000000 := by rw [← str_size]; omega
  have hVs : value.size = V.length := by rw [HVV.out]; exact str_size V
  have hVl : value.toList = V := by rw [HVV.out, ByteArray.toList_eq]; exact bl_str _
  have hfv : V.length ≤ 1000000 := by omega
  have hin := fun W => inner_any (str K) 1 W (by have := HK.out.2.1; rw [str_size]; omega) (by omega) (by omega)
  rw [bl_str] at hin
  have HIN := Lib.hid hin
  have HVS := Lib.hid hVs
  have HVL := Lib.hid hVl
  clear hin hkm hom hvm ho hz hv hVs hVl
  go_enter Tryd.func3, Tryd.ntmps3
  go_wp2_with fail
  (with_reducible refine (HRT.out).mono ?_)
  rintro e w1 ⟨rfl, rfl⟩
  go_wp2_with fail
  (with_reducible refine (HAW.out _).mono ?_)
  rintro e w1 ⟨rfl, hb1⟩
  have HB1 := Lib.hid hb1
  clear hb1 HRT HAW
  go_wp2_with fail
  refine (HUN.out _).mono ?_
  rintro e w2 hU
  obtain ⟨hb2, hU2⟩ := unpackP_unp hU
  rw [bl_str] at hU2
  have HB2 := Lib.hid (HB1.out.trans (hb2.mono HB1.out.size))
  clear hU hb2 HB1
  have hun2 : ∃ (I : Bool) (k : ByteArray) (n : Int), e = .returned (.tuple #[.string k, .int .i64 n, .bool I]) ∧ (I = false → unp O = none) := by
    rcases hU2 with ⟨k, n, h1, h2⟩ | ⟨h1, h2⟩
    · exact ⟨true, _, _, h2, fun h => by cases h⟩
    · exact ⟨false, _, _, h2, fun _ => h1⟩
  obtain ⟨I, k, n, rfl, hI⟩ := hun2
  have HI := Lib.hid hI
  clear hU2 hI
  go_upto_region 4 with (fail)
  go_cut [57] (fun c wx => ∃ b, c = .bool b ∧ (b = false → unp O = none ∨ goodV V = false) ∧ wx = w2)
  case first =>
    cases I with
    | false =>
      go_wp2_with fail
      go_meet
      exact ⟨false, rfl, fun _ => .inl (HI.out (by simp)), rfl⟩
    | true =>
      by_cases hD : V = [68]
      · have r1 : (value.toList == [68]) = true := by rw [HVL.out, hD]; rfl
        clear hD
        go_wp2_with fail
        go_meet
        exact ⟨true, rfl, (fun h => by cases h), rfl⟩
      · have r1 : (value.toList == [68]) = false := by rw [HVL.out, beq_eq_false_iff_ne]; exact hD
        have hVs := HVS.out
        rcases hV : V with _ | ⟨a, t⟩
        · have hs0 : value.size = 0 := by rw [hVs, hV]; rfl
          have d4 : decide ((0 : Int) < (value.size : Int)) = false := by rw [decide_eq_false_iff_not]; omega
          have d5 : decide (0 < value.size) = false := by rw [decide_eq_false_iff_not]; omega
          clear hVs hD hs0
          go_wp2_with fail
          go_meet
          exact ⟨false, rfl, fun _ => .inr (by rw [hV]; rfl), rfl⟩
        · have hx0 : ∀ h, value[0]'h = a := fun h => by
            have h1 := HVL.out
            rw [ByteArray.toList_eq, hV] at h1
            have h2 : value.data.toList[0]'(by simpa using h) = a := by simp [h1]
            exact h2
          have hs0 : 0 < value.size := by rw [hVs, hV]; simp
          have hs0' : (0 : Int) < (value.size : Int) := by omega
          by_cases ha : a = 80
          · have hix : ∀ h, ((value[0]'h).toNat : Int) = 80 := fun h => by rw [hx0, ha]; rfl
            clear hVs hD hV hx0 ha
            go_wp2_with fail
            go_meet
            exact ⟨true, rfl, (fun h => by cases h), rfl⟩
          · have hix : ∀ h, ((value[0]'h).toNat : Int) = (a.toNat : Int) := fun h => by rw [hx0]
            have han : ¬ a.toNat = 80 := fun h => ha (by apply UInt8.toNat_inj.1; rw [h]; rfl)
            have hg : goodV V = false := by
              unfold goodV
              rw [beq_eq_false_iff_ne.2 hD, hV]
              simpa using ha
            have HG := Lib.hid hg
            obtain ⟨c, hc⟩ : ∃ c, c = a.toNat := ⟨_, rfl⟩
            rw [← hc] at hix han
            have q1 : (((c : Nat) : Int) == 80) = false := by rw [beq_eq_false_iff_ne]; omega
            clear hVs hD hV hx0 ha hc hg
            go_wp2_with fail
            go_meet
            exact ⟨false, rfl, fun _ => .inr HG.out, rfl⟩
  case rest =>
    obtain ⟨b, rfl, hb, rfl⟩ := hcut
    cases b with
    | true =>
      go_wp2_with fail
      go_ret
      exact ⟨rfl, HB2.out⟩
    | false =>
      have HBAD := Lib.hid (hb rfl)
      clear hb HI
      go_wp2_with fail
      (with_reducible refine (HIN.out _).mono ?_)
      rintro e w3 ⟨rfl, hb3⟩
      have HB3 := Lib.hid (HB2.out.trans (hb3.mono HB2.out.size))
      clear hb3 HB2
      go_upto_region 8 with (fail)
      obtain ⟨hbU, hN⟩ := new_two w3 (inn K 1) [80, 120] O V _ _ _ _ rfl rfl rfl HVV.out _ rfl
      have hsU := hbU.size
      have HBU := Lib.hid (HB3.out.trans (hbU.mono HB3.out.size))
      have HN := Lib.hid hN
      clear hbU hN HB3
      go_wp2_with fail
      refine HN.out.mono ?_
      generalize (((w3.alloc _).alloc _).alloc _) = wu at *
      rintro e w4 ⟨p, S, rfl, hm4, hs4, hb4⟩
      have hls : [([(inn K 1, [80, 120])] : List Pr), [(O, V)]] = ([⟨.slice (some ⟨w3.heap.size, 0, none⟩) 1 1, [(inn K 1, [80, 120])], 0⟩, ⟨.slice (some ⟨w3.heap.size + 1, 0, none⟩) 1 1, [(O, V)], 0⟩] : List Src).map (·.l) := rfl
      have hgd : ∀ l ∈ [([(inn K 1, [80, 120])] : List Pr), [(O, V)]], Srt l := fun l hl => by
        simp only [List.mem_cons, List.not_mem_nil, or_false] at hl
        rcases hl with rfl | rfl <;> simp [Srt]
      obtain ⟨Kv, hKv⟩ : ∃ Kv, Kv = manyK wu.heap.size p _ hgd := ⟨_, rfl⟩
      have hM4 : Kv.M w4 S [] := by
        rw [hKv]
        exact ⟨_, hm4, rfl, .inr ⟨rfl, rfl⟩⟩
      have HSK := Lib.hid (fun (W : World) (S' : Nat → Prop) (r0 r : List Pr) (h : Kv.M W S' r0) (hr : IsM [([(inn K 1, [80, 120])] : List Pr), [(O, V)]] r) => show Calls Tryd.prog 18 #[(Value.pointer (some ⟨p, 0, none⟩)), .string ⟨#[]⟩] W fun e w' => e = .returned (.tuple #[]) ∧ Fr S' W w' ∧ ∃ S2, Kv.M w' S2 r ∧ ∀ j, S2 j → S' j ∨ W.heap.size ≤ j by
        rw [hKv] at h ⊢
        exact seekM_any wu.heap.size p _ hgd S' r0 r ⟨#[]⟩ W h (by rw [show bl ⟨#[]⟩ = [] from rfl, drop_nil]; exact hr))
      have HM4 := Lib.hid hM4
      have HS4 := Lib.hid hs4
      have HB4 := Lib.hid hb4
      clear hm4 hs4 hb4 hls hM4 HN hKv
      go_wp2_with fail
      (with_reducible refine (newView_any Kv 5 S [] w4 HM4.out).mono ?_)
      rintro e w5 ⟨v, rfl, hv5, hb5, hlv⟩
      have hszw := HBU.out.size
      have HSZ := Lib.hid hszw
      have hsz4 := HB4.out.size
      have HV5 := Lib.hid hv5
      have HB5 := Lib.hid (HBU.out.trans ((HB4.out.trans (hb5.mono hsz4)).mono hszw))
      have HLV := Lib.hid hlv
      have HF := Lib.hid (fun (W : World) (S' : Nat → Prop) (h : Fr (fun k => k = v ∨ S k) w5 W) => show Below w.heap.size w W from HB5.out.trans (h.below HB5.out.size (fun k _ hk => by
        rcases hk with rfl | hk
        · omega
        · have := HS4.out k hk
          omega)))
      clear hv5 hb5 hlv hszw hsz4 HBU HB4 HVS HVL HVV hgd
      have hle := hfo
      have HFIT := Lib.hid (show ∀ x ∈ [(inn K 1, [80, 120]), (O, V)], x.1.length ≤ 1000000 ∧ x.2.length ≤ 1000000 from fun x hx => by
        simp only [List.mem_cons, List.not_mem_nil, or_false] at hx
        rcases hx with rfl | rfl
        · have := HK.out.2.1
          exact ⟨by rw [inn_len]; omega, by simp⟩
        · exact ⟨hfo, hfv⟩)
      have HO1 := Lib.hid (odd_first HK.out)
      have HO2 := Lib.hid (odd_next HK.out HBAD.out)
      have HO3 := Lib.hid (odd_bad HBAD.out)
      rcases Classical.em (inn K 1 = O) with heq | hne
      · have f1 : Op.bytesLess (str (inn K 1)).toList (str O).toList = false := by
          rw [less_eq, bl_str, bl_str, heq]
          exact decide_eq_false (fun h => List.lt_irrefl _ h)
        have f3 : ((str (inn K 1)).toList == (str O).toList) = true := by rw [str_eqB]; exact decide_eq_true heq
        have H6 := Lib.hid (vwSeek_any Kv v 5 S [] _ w5 ⟨#[]⟩ [(inn K 1, [80, 120])] HV5.out rfl (fun x hx => HFIT.out x (by rw [List.mem_singleton.1 hx]; simp)) (HSK.out w5 S [] _ HV5.out.m (two_eq heq)))
        rw [HO1.out] at H6
        clear heq
        go_wp2_with fail
        (with_reducible refine H6.out.mono ?_)
        rintro e w6 ⟨rfl, hf6, S6, hv6, hs6⟩
        have HB6 := Lib.hid (HF.out w6 S6 hf6)
        have hsw6 := hf6.size
        have HBV := Lib.hid (show w.heap.size ≤ v from by
          have := HLV.out
          have h0 := HSZ.out
          have h1 := hv6.base
          omega)
        have HBS := Lib.hid (show ∀ k, S6 k → w.heap.size ≤ k from fun k hk => by
          have := Kv.own hv6.m k hk
          have h0 := HSZ.out
          omega)
        generalize str (inn K 1) = y1 at *
        have H7 := Lib.hid (HIN.out w6)
        have HV6 := Lib.hid hv6
        clear hf6 hv6 hs6 H6 HF HSK HV5 HB5 HM4 HS4
        go_wp2_with fail
        (with_reducible refine H7.out.mono ?_)
        rintro e w7 ⟨rfl, hb7⟩
        have HV7 := Lib.hid (HV6.out.keep hb7)
        have HB7 := Lib.hid (HB6.out.trans (hb7.mono HB6.out.size))
        have H8 := Lib.hid (HIN.out w7)
        clear hb7 H7 HV6 HB6
        go_wp2_with fail
        (with_reducible refine H8.out.mono ?_)
        rintro e w8 ⟨rfl, hb8⟩
        have HV8 := Lib.hid (HV7.out.keep hb8)
        have HB8 := Lib.hid (HB7.out.trans (hb8.mono HB7.out.size))
        clear hb8 H8 HV7 HB7
        have J := Lib.hid (vwValid_any Kv v 5 S6 _ _ w8 HV8.out)
        dsimp only at J
        simp only [Bool.true_and, beq_self_eq_true] at J
        go_wp2_with fail
        (with_reducible refine J.out.mono ?_)
        rintro e w9 ⟨rfl, rfl⟩
        go_wp2_with fail
        go_ret
        exact ⟨rfl, HB8.out⟩
      have f3 : ((str (inn K 1)).toList == (str O).toList) = false := by rw [str_eqB]; exact decide_eq_false hne
      by_cases hlt : inn K 1 < O
      · have f1 : Op.bytesLess (str (inn K 1)).toList (str O).toList = true := by
          rw [less_eq, bl_str, bl_str]
          exact decide_eq_true hlt
        have H6 := Lib.hid (vwSeek_any Kv v 5 S [] _ w5 ⟨#[]⟩ [(inn K 1, [80, 120]), (O, V)] HV5.out rfl HFIT.out (HSK.out w5 S [] _ HV5.out.m (two_lt hlt)))
        rw [HO1.out] at H6
        clear hne hlt
        go_wp2_with fail
        (with_reducible refine H6.out.mono ?_)
        rintro e w6 ⟨rfl, hf6, S6, hv6, hs6⟩
        have HB6 := Lib.hid (HF.out w6 S6 hf6)
        have hsw6 := hf6.size
        have HBV := Lib.hid (show w.heap.size ≤ v from by
          have := HLV.out
          have h0 := HSZ.out
          have h1 := hv6.base
          omega)
        have HBS := Lib.hid (show ∀ k, S6 k → w.heap.size ≤ k from fun k hk => by
          have := Kv.own hv6.m k hk
          have h0 := HSZ.out
          omega)
        generalize str (inn K 1) = y1 at *
        have H7 := Lib.hid (HIN.out w6)
        have HV6 := Lib.hid hv6
        clear hf6 hv6 hs6 H6 HF HSK HV5 HB5 HM4 HS4
        go_wp2_with fail
        (with_reducible refine H7.out.mono ?_)
        rintro e w7 ⟨rfl, hb7⟩
        have HV7 := Lib.hid (HV6.out.keep hb7)
        have HB7 := Lib.hid (HB6.out.trans (hb7.mono HB6.out.size))
        have H8 := Lib.hid (HIN.out w7)
        clear hb7 H7 HV6 HB6
        go_wp2_with fail
        (with_reducible refine H8.out.mono ?_)
        rintro e w8 ⟨rfl, hb8⟩
        have HV8 := Lib.hid (HV7.out.keep hb8)
        have HB8 := Lib.hid (HB7.out.trans (hb8.mono HB7.out.size))
        clear hb8 H8 HV7 HB7
        have J := Lib.hid (vwValid_any Kv v 5 S6 _ _ w8 HV8.out)
        have J1 := Lib.hid (vwKey_any Kv v 5 S6 _ _ w8 HV8.out)
        have J2 := Lib.hid (vwValue_any Kv v 5 S6 _ _ w8 HV8.out)
        dsimp only at J J1 J2
        simp only [Bool.true_and, beq_self_eq_true, if_true] at J J1 J2
        rw [show str [120] = (⟨#[120]⟩ : ByteArray) from rfl] at J2
        have HNX := Lib.hid (vwNext_yes Kv v 5 S6 _ _ w8 HV8.out rfl rfl HFIT.out)
        rw [HO2.out] at HNX
        have k1 : ((str K).toList != (str K).toList) = false := by simp
        go_wp2_with fail
        (with_reducible refine J.out.mono ?_)
        rintro e w9 ⟨rfl, rfl⟩
        go_wp2_with fail
        (with_reducible refine J1.out.mono ?_)
        rintro e w9 ⟨rfl, rfl⟩
        go_wp2_with fail
        (with_reducible refine J2.out.mono ?_)
        rintro e w9 ⟨rfl, rfl⟩
        go_wp2_with fail
        (with_reducible refine HNX.out.mono ?_)
        rintro e w9 ⟨rfl, hf9, S9, hv9, hs9⟩
        have HB9 := Lib.hid (HB8.out.trans (hf9.below HB8.out.size (fun k _ hk => by
          rcases hk with rfl | hk
          · exact HBV.out
          · exact HBS.out k hk)))
        have L := Lib.hid (vwValid_any Kv v 5 S9 _ _ w9 hv9)
        have L1 := Lib.hid (vwErr_any Kv v 5 S9 _ _ w9 hv9)
        have L2 := Lib.hid (vwKey_any Kv v 5 S9 _ _ w9 hv9)
        dsimp only at L L1 L2
        simp only [Bool.false_and, Bool.false_eq_true, if_false] at L L2
        clear hf9 hv9 hs9
        go_wp2_with fail
        (with_reducible refine L.out.mono ?_)
        rintro e w10 ⟨rfl, rfl⟩
        go_wp2_with fail
        (with_reducible refine L1.out.mono ?_)
        rintro e w10 ⟨rfl, rfl⟩
        go_wp2_with fail
        (with_reducible refine L2.out.mono ?_)
        rintro e w10 ⟨rfl, rfl⟩
        go_wp2_with fail
        go_ret
        exact ⟨rfl, HB9.out⟩
      · have hgt : O < inn K 1 := by
          rcases Classical.em (O < inn K 1) with h | h
          · exact h
          · exact absurd (eq_of_nlt hlt h) hne
        have f1 : Op.bytesLess (str (inn K 1)).toList (str O).toList = false := by
          rw [less_eq, bl_str, bl_str]
          exact decide_eq_false hlt
        have H6 := Lib.hid (vwSeek_any Kv v 5 S [] _ w5 ⟨#[]⟩ [(O, V), (inn K 1, [80, 120])] HV5.out rfl (fun x hx => HFIT.out x (by simpa [or_comm] using hx)) (HSK.out w5 S [] _ HV5.out.m (two_gt hgt)))
        rw [HO3.out] at H6
        clear hne hlt hgt
        go_wp2_with fail
        (with_reducible refine H6.out.mono ?_)
        rintro e w6 ⟨rfl, hf6, S6, hv6, hs6⟩
        have HB6 := Lib.hid (HF.out w6 S6 hf6)
        have hsw6 := hf6.size
        have HBV := Lib.hid (show w.heap.size ≤ v from by
          have := HLV.out
          have h0 := HSZ.out
          have h1 := hv6.base
          omega)
        have HBS := Lib.hid (show ∀ k, S6 k → w.heap.size ≤ k from fun k hk => by
          have := Kv.own hv6.m k hk
          have h0 := HSZ.out
          omega)
        generalize str (inn K 1) = y1 at *
        have H7 := Lib.hid (HIN.out w6)
        have HV6 := Lib.hid hv6
        clear hf6 hv6 hs6 H6 HF HSK HV5 HB5 HM4 HS4
        go_wp2_with fail
        (with_reducible refine H7.out.mono ?_)
        rintro e w7 ⟨rfl, hb7⟩
        have HV7 := Lib.hid (HV6.out.keep hb7)
        have HB7 := Lib.hid (HB6.out.trans (hb7.mono HB6.out.size))
        have H8 := Lib.hid (HIN.out w7)
        clear hb7 H7 HV6 HB6
        go_wp2_with fail
        (with_reducible refine H8.out.mono ?_)
        rintro e w8 ⟨rfl, hb8⟩
        have HV8 := Lib.hid (HV7.out.keep hb8)
        have HB8 := Lib.hid (HB7.out.trans (hb8.mono HB7.out.size))
        clear hb8 H8 HV7 HB7
        have HNX := Lib.hid (vwNext_no Kv v 5 S6 _ _ w8 HV8.out rfl)
        have L := Lib.hid (vwValid_any Kv v 5 S6 _ _ w8 HV8.out)
        have L1 := Lib.hid (vwErr_any Kv v 5 S6 _ _ w8 HV8.out)
        have L2 := Lib.hid (vwKey_any Kv v 5 S6 _ _ w8 HV8.out)
        dsimp only at L L1 L2
        simp only [Bool.false_and, Bool.false_eq_true, if_false] at L L2
        go_wp2_with fail
        (with_reducible refine HNX.out.mono ?_)
        rintro e w9 ⟨rfl, rfl⟩
        go_wp2_with fail
        (with_reducible refine L.out.mono ?_)
        rintro e w10 ⟨rfl, rfl⟩
        go_wp2_with fail
        (with_reducible refine L1.out.mono ?_)
        rintro e w10 ⟨rfl, rfl⟩
        go_wp2_with fail
        (with_reducible refine L2.out.mono ?_)
        rintro e w10 ⟨rfl, rfl⟩
        go_wp2_with fail
        go_ret
        exact ⟨rfl, HB8.out⟩
end Go.Proofs.YtdbfaknpfepnfaaDoor
