/-
  The walks of the document's Texts and Ints.
-/
import Derived.Test.YtbdocgnhoomhcaaListsW
namespace Go.Proofs.Ytbdocgnhoomhcaa
open Go.RowKit CodecP

set_option maxHeartbeats 400000 in
theorem refTexts_any (v : Value) (ks : List ByteArray) (w : World) (hk : Sl w v (ks.map (Value.string))) (hlen : (enc (ks.map tx)).length ≤ 1000000) :
    Calls Try.prog 37 #[v] w fun e w' => e = .returned (.string (str (enc (ks.map tx)))) ∧ Below w.heap.size w w' := by
  have hen : (enc (ks.map tx)).length = (grp ks.length).length + (ks.map tx).flatten.length := by unfold enc; rw [List.length_append, List.length_map]
  have hkl := hk.len
  rw [List.length_map] at hkl
  unfold maxLen at hkl
  have HG := Lib.hid (fun W => refGroups_any ks.length W (by omega))
  rcases hk.cases with ⟨h0, ao, cap, rfl⟩ | ⟨b, off, cap, rfl, hpos, hcap, hmax, hb, hc⟩
  · have h0 := List.map_eq_nil_iff.1 h0
    subst h0
    clear hen hk
    go_enter Try.func37, Try.ntmps37
    go_wp2_with fail
    refine (HG.out _).mono ?_
    rintro e w1 ⟨rfl, hby⟩
    go_wp2
    go_loopw [3, 4] (fun s i wr => i = .int .i64 0 ∧ wr = w1 ∧ s = .string (str (grp 0))) (fun _ _ _ => 0)
    case atStart => exact ⟨rfl, rfl, rfl⟩
    case round =>
      obtain ⟨rfl, rfl, rfl⟩ := hrel
      go_wp2
      go_ret
      exact ⟨by simp [enc], hby⟩
  · rw [List.length_map] at hpos hcap
    have hat : SlAt w b off (ks.map (Value.string)) := ⟨hb, hc⟩
    have hfl := flat_le (ks.map tx)
    have hwz : IntKind.u64.wrap (ks.length : Int) = (ks.length : Int) := by rw [IntKind.wrap_u64]; omega
    have HAT := Lib.hid hat
    have HFL := Lib.hid hfl
    have HLEN := Lib.hid hlen
    have HEN := Lib.hid hen
    rw [List.length_map]
    clear hen hk hb hc hat hfl hlen
    go_enter Try.func37, Try.ntmps37
    go_wp2_with fail
    (with_reducible refine (HG.out _).mono ?_)
    rintro e w1 ⟨rfl, hby⟩
    have HB := Lib.hid hby
    clear hby
    go_wp2
    go_loopw [3, 4] (fun s i wr => ∃ k : Nat, k ≤ ks.length ∧ i = .int .i64 k ∧ s = .string (str (grp ks.length ++ ((ks.map tx).take k).flatten)) ∧ Below w.heap.size w wr) (fun _ i _ => ks.length - (intOf i).toNat)
    case atStart => exact ⟨0, by omega, rfl, by simp, HB.out⟩
    case round =>
      obtain ⟨k, hkn, rfl, rfl, hbel⟩ := hrel
      by_cases hlt : k < ks.length
      · have c0 := (HAT.out.below hbel).2 k (.string ks[k]) (by simp [hlt])
        have htk := take_flat (ks.map tx) k (text (bl ks[k])) (by simp [hlt, tx])
        have happ := str_append (grp ks.length ++ ((ks.map tx).take k).flatten) (text (bl ks[k]))
        rw [List.append_assoc, ← htk] at happ
        have HT := Lib.hid (fun W => refText_any ks[k] W (by have h2 := HFL.out (k + 1); rw [htk, List.length_append] at h2; have h3 : ks[k].size ≤ (text (bl ks[k])).length := (by unfold text; rw [List.length_append]; show (bl ks[k]).length ≤ _; omega); have h4 := HLEN.out; have h5 := HEN.out; omega))
        have s1 := str_size (grp ks.length ++ ((ks.map tx).take k).flatten)
        have s2 := str_size (text (bl ks[k]))
        have hcat : ¬ 9223372036854775807 < (str (grp ks.length ++ ((ks.map tx).take k).flatten)).size + (str (text (bl ks[k]))).size := by
          have h1 := HFL.out k
          have h2 := HFL.out (k + 1)
          rw [htk, List.length_append] at h2
          have h4 := HLEN.out
          have h5 := HEN.out
          rw [List.length_append] at s1
          omega
        have HA := Lib.hid happ
        have HBEL := Lib.hid hbel
        clear htk happ hbel s1 s2
        generalize str (grp ks.length ++ ((ks.map tx).take k).flatten) = A at *
        generalize str (text (bl ks[k])) = B at *
        generalize ks[k] = kk at *
        go_wp2_with fail
        refine (HT.out _).mono ?_
        rintro e w2 ⟨rfl, hb2⟩
        go_wp2
        go_roundw
        case rel => exact ⟨k + 1, by omega, by go_num, by rw [← HA.out], HBEL.out.trans (hb2.mono HBEL.out.size)⟩
        case measure => simp [intOf]; omega
      · obtain rfl : k = ks.length := by omega
        go_wp2
        go_ret
        refine ⟨?_, hbel⟩
        rw [List.take_of_length_le (by rw [List.length_map]; omega)]
        unfold enc
        rw [List.length_map]
        rfl
set_option maxHeartbeats 400000 in
theorem refInts_any (v : Value) (ks : List Int) (w : World) (hk : Sl w v (ks.map (Value.int .i64))) (hr : ∀ n ∈ ks, -9223372036854775808 ≤ n ∧ n < 9223372036854775808) (hlen : (enc (ks.map gz)).length ≤ 1000000) :
    Calls Try.prog 38 #[v] w fun e w' => e = .returned (.string (str (enc (ks.map gz)))) ∧ Below w.heap.size w w' := by
  have HR := Lib.hid hr
  clear hr
  have hen : (enc (ks.map gz)).length = (grp ks.length).length + (ks.map gz).flatten.length := by unfold enc; rw [List.length_append, List.length_map]
  have hkl := hk.len
  rw [List.length_map] at hkl
  unfold maxLen at hkl
  have HG := Lib.hid (fun W => refGroups_any ks.length W (by omega))
  rcases hk.cases with ⟨h0, ao, cap, rfl⟩ | ⟨b, off, cap, rfl, hpos, hcap, hmax, hb, hc⟩
  · have h0 := List.map_eq_nil_iff.1 h0
    subst h0
    clear hen hk
    go_enter Try.func38, Try.ntmps38
    go_wp2_with fail
    refine (HG.out _).mono ?_
    rintro e w1 ⟨rfl, hby⟩
    go_wp2
    go_loopw [3, 4] (fun s i wr => i = .int .i64 0 ∧ wr = w1 ∧ s = .string (str (grp 0))) (fun _ _ _ => 0)
    case atStart => exact ⟨rfl, rfl, rfl⟩
    case round =>
      obtain ⟨rfl, rfl, rfl⟩ := hrel
      go_wp2
      go_ret
      exact ⟨by simp [enc], hby⟩
  · rw [List.length_map] at hpos hcap
    have hat : SlAt w b off (ks.map (Value.int .i64)) := ⟨hb, hc⟩
    have hfl := flat_le (ks.map gz)
    have hwz : IntKind.u64.wrap (ks.length : Int) = (ks.length : Int) := by rw [IntKind.wrap_u64]; omega
    have HAT := Lib.hid hat
    have HFL := Lib.hid hfl
    have HLEN := Lib.hid hlen
    have HEN := Lib.hid hen
    rw [List.length_map]
    clear hen hk hb hc hat hfl hlen
    go_enter Try.func38, Try.ntmps38
    go_wp2_with fail
    (with_reducible refine (HG.out _).mono ?_)
    rintro e w1 ⟨rfl, hby⟩
    have HB := Lib.hid hby
    clear hby
    go_wp2
    go_loopw [3, 4] (fun s i wr => ∃ k : Nat, k ≤ ks.length ∧ i = .int .i64 k ∧ s = .string (str (grp ks.length ++ ((ks.map gz).take k).flatten)) ∧ Below w.heap.size w wr) (fun _ i _ => ks.length - (intOf i).toNat)
    case atStart => exact ⟨0, by omega, rfl, by simp, HB.out⟩
    case round =>
      obtain ⟨k, hkn, rfl, rfl, hbel⟩ := hrel
      by_cases hlt : k < ks.length
      · have c0 := (HAT.out.below hbel).2 k (.int .i64 ks[k]) (by simp [hlt])
        have htk := take_flat (ks.map gz) k (grp (zig ks[k])) (by simp [hlt, gz])
        have happ := str_append (grp ks.length ++ ((ks.map gz).take k).flatten) (grp (zig ks[k]))
        rw [List.append_assoc, ← htk] at happ
        have HT := Lib.hid (fun W => refSigned_any ks[k] W (HR.out _ (by simp)).1 (HR.out _ (by simp)).2)
        have s1 := str_size (grp ks.length ++ ((ks.map gz).take k).flatten)
        have s2 := str_size (grp (zig ks[k]))
        have hcat : ¬ 9223372036854775807 < (str (grp ks.length ++ ((ks.map gz).take k).flatten)).size + (str (grp (zig ks[k]))).size := by
          have h1 := HFL.out k
          have h2 := HFL.out (k + 1)
          rw [htk, List.length_append] at h2
          have h4 := HLEN.out
          have h5 := HEN.out
          rw [List.length_append] at s1
          omega
        have HA := Lib.hid happ
        have HBEL := Lib.hid hbel
        clear htk happ hbel s1 s2
        generalize str (grp ks.length ++ ((ks.map gz).take k).flatten) = A at *
        generalize str (grp (zig ks[k])) = B at *
        generalize ks[k] = kk at *
        go_wp2_with fail
        refine (HT.out _).mono ?_
        rintro e w2 ⟨rfl, hb2⟩
        go_wp2
        go_roundw
        case rel => exact ⟨k + 1, by omega, by go_num, by rw [← HA.out], HBEL.out.trans (hb2.mono HBEL.out.size)⟩
        case measure => simp [intOf]; omega
      · obtain rfl : k = ks.length := by omega
        go_wp2
        go_ret
        refine ⟨?_, hbel⟩
        rw [List.take_of_length_le (by rw [List.length_map]; omega)]
        unfold enc
        rw [List.length_map]
        rfl
set_option maxHeartbeats 400000 in
theorem same_any (v1 v2 : Value) (ks ls : List ByteArray) (w : World) (h1 : Sl w v1 (ks.map (Value.string))) (h2 : Sl w v2 (ls.map (Value.string))) :
    Calls Try.prog 41 #[v1, v2] w fun e w' => e = .returned (.bool (decide (ks = ls))) ∧ Below w.heap.size w w' := by
  have hm1 := h1.len
  have hm2 := h2.len
  rw [List.length_map] at hm1 hm2
  unfold maxLen at hm1 hm2
  have hbel0 := Below.refl w.heap.size w
  by_cases hlen : ks.length = ls.length
  · rcases h1.cases with ⟨h0, ao, cap, rfl⟩ | ⟨b1, o1, cap1, rfl, hpos, hcap, hmax, hb1, hc1⟩
    · have h0 := List.map_eq_nil_iff.1 h0
      subst h0
      have : ls = [] := List.length_eq_zero_iff.1 hlen.symm
      subst this
      rcases h2.cases with ⟨-, ao2, cap2, rfl⟩ | ⟨b2, o2, cap2, rfl, hpos2, _⟩
      · clear h1 h2 hlen
        go_enter Try.func41, Try.ntmps41
        go_wp2
        go_loopw [5] (fun i wr => i = .int .i64 0 ∧ wr = w) (fun _ _ => 0)
        case atStart => exact ⟨rfl, rfl⟩
        case round =>
          obtain ⟨rfl, rfl⟩ := hrel
          go_wp2
          go_ret
          exact ⟨rfl, hbel0⟩
      · simp at hpos2
    rw [List.length_map] at hpos
    rcases h2.cases with ⟨h0, -⟩ | ⟨b2, o2, cap2, rfl, hpos2, hcap2, hmax2, hb2, hc2⟩
    · have := List.map_eq_nil_iff.1 h0; subst this; rw [List.length_nil] at hlen; omega
    have HS1 := Lib.hid (show SlAt w b1 o1 (ks.map (Value.string)) from ⟨hb1, hc1⟩)
    have HS2 := Lib.hid (show SlAt w b2 o2 (ls.map (Value.string)) from ⟨hb2, hc2⟩)
    have HL := Lib.hid hlen
    have hle : (ks.length == ls.length) = true := by rw [beq_iff_eq]; exact hlen
    have hli : ((ks.length : Int) == (ls.length : Int)) = true := by rw [beq_iff_eq]; omega
    have hln : ((ks.length : Int) != (ls.length : Int)) = false := by rw [bne, hli]; rfl
    rw [List.length_map, List.length_map]
    rw [List.length_map] at hcap hcap2
    clear h1 h2 hle hb1 hc1 hb2 hc2
    go_enter Try.func41, Try.ntmps41
    go_wp2
    clear hli hln hlen
    go_loopw [5] (fun i wr => ∃ k : Nat, k ≤ ks.length ∧ i = .int .i64 (k : Int) ∧ (ks.take k = ls.take k) ∧ Below w.heap.size w wr) (fun i _ => ks.length - (intOf i).toNat)
    case atStart => exact ⟨0, by omega, rfl, by simp, hbel0⟩
    case round =>
      clear hbel0
      obtain ⟨k, hk, rfl, heq, hbel⟩ := hrel
      have HEQ := Lib.hid heq
      clear heq
      by_cases hlt : k < ks.length
      · have hlt2 : k < ls.length := by rw [← HL.out]; exact hlt
        have c1' := (HS1.out.below hbel).2 k (.string ks[k]) (by simp [hlt])
        have c2' := (HS2.out.below hbel).2 k (.string ls[k]) (by simp [hlt2])
        have g1 : (k : Int) < (ks.length : Int) := by omega
        have g2 : (k : Int) < (ls.length : Int) := by omega
        by_cases he : ks[k] = ls[k]
        · have hst : ks.take (k + 1) = ls.take (k + 1) := by
            rw [List.take_add_one, List.take_add_one, HEQ.out, List.getElem?_eq_getElem hlt, List.getElem?_eq_getElem hlt2, he]
          have HST := Lib.hid hst
          rw [he] at c1'
          clear hst he
          generalize ls[k] = y at *
          have q1 : (y.toList == y.toList) = true := by simp
          have q2 : (y.toList != y.toList) = false := by simp
          go_wp2_with fail
          go_quiet (fail)
          go_wp2
          go_roundw
          case rel => exact ⟨k + 1, by omega, by go_num, HST.out, hbel.drewN _⟩
          case measure => simp [intOf]; omega
        · have hd : decide (ks = ls) = false := by
            rw [decide_eq_false_iff_not]
            intro h
            subst h
            exact he rfl
          have HD := Lib.hid hd
          clear hd
          generalize ls[k] = y at *
          generalize ks[k] = x at *
          have q1 : (x.toList == y.toList) = false := by rw [ne_str]; simp only [decide_eq_false_iff_not]; intro h; exact he (by rw [← str_bl x, h, str_bl])
          have q2 : (x.toList != y.toList) = true := by rw [bne, q1]; rfl
          clear he
          go_wp2_with fail
          go_quiet (fail)
          go_wp2
          go_ret
          exact ⟨by rw [HD.out]; rfl, hbel.drewN _⟩
      · obtain rfl : k = ks.length := by omega
        have hd : decide (ks = ls) = true := by
          rw [decide_eq_true_eq]
          have := HEQ.out
          rwa [List.take_of_length_le (Nat.le_refl _), List.take_of_length_le (by rw [HL.out]; exact Nat.le_refl _)] at this
        have HD := Lib.hid hd
        clear hd
        go_wp2
        go_ret
        exact ⟨by rw [HD.out]; rfl, hbel⟩
  · have hd : decide (ks = ls) = false := by
      rw [decide_eq_false_iff_not]
      intro h
      subst h
      exact hlen rfl
    have HD := Lib.hid hd
    obtain ⟨a1, c1, rfl, -⟩ := h1
    obtain ⟨a2, c2, rfl, -⟩ := h2
    rw [List.length_map, List.length_map]
    have hli : ((ks.length : Int) == (ls.length : Int)) = false := by rw [beq_eq_false_iff_ne]; omega
    have hln : ((ks.length : Int) != (ls.length : Int)) = true := by rw [bne, hli]; rfl
    clear hd hlen
    go_enter Try.func41, Try.ntmps41
    go_wp2
    go_ret
    exact ⟨by rw [HD.out]; rfl, hbel0⟩
set_option maxHeartbeats 400000 in
theorem sameInts_any (v1 v2 : Value) (ks ls : List Int) (w : World) (h1 : Sl w v1 (ks.map (Value.int .i64))) (h2 : Sl w v2 (ls.map (Value.int .i64))) :
    Calls Try.prog 42 #[v1, v2] w fun e w' => e = .returned (.bool (decide (ks = ls))) ∧ Below w.heap.size w w' := by
  have hm1 := h1.len
  have hm2 := h2.len
  rw [List.length_map] at hm1 hm2
  unfold maxLen at hm1 hm2
  have hbel0 := Below.refl w.heap.size w
  by_cases hlen : ks.length = ls.length
  · rcases h1.cases with ⟨h0, ao, cap, rfl⟩ | ⟨b1, o1, cap1, rfl, hpos, hcap, hmax, hb1, hc1⟩
    · have h0 := List.map_eq_nil_iff.1 h0
      subst h0
      have : ls = [] := List.length_eq_zero_iff.1 hlen.symm
      subst this
      rcases h2.cases with ⟨-, ao2, cap2, rfl⟩ | ⟨b2, o2, cap2, rfl, hpos2, _⟩
      · clear h1 h2 hlen
        go_enter Try.func42, Try.ntmps42
        go_wp2
        go_loopw [5] (fun i wr => i = .int .i64 0 ∧ wr = w) (fun _ _ => 0)
        case atStart => exact ⟨rfl, rfl⟩
        case round =>
          obtain ⟨rfl, rfl⟩ := hrel
          go_wp2
          go_ret
          exact ⟨rfl, hbel0⟩
      · simp at hpos2
    rw [List.length_map] at hpos
    rcases h2.cases with ⟨h0, -⟩ | ⟨b2, o2, cap2, rfl, hpos2, hcap2, hmax2, hb2, hc2⟩
    · have := List.map_eq_nil_iff.1 h0; subst this; rw [List.length_nil] at hlen; omega
    have HS1 := Lib.hid (show SlAt w b1 o1 (ks.map (Value.int .i64)) from ⟨hb1, hc1⟩)
    have HS2 := Lib.hid (show SlAt w b2 o2 (ls.map (Value.int .i64)) from ⟨hb2, hc2⟩)
    have HL := Lib.hid hlen
    have hle : (ks.length == ls.length) = true := by rw [beq_iff_eq]; exact hlen
    have hli : ((ks.length : Int) == (ls.length : Int)) = true := by rw [beq_iff_eq]; omega
    have hln : ((ks.length : Int) != (ls.length : Int)) = false := by rw [bne, hli]; rfl
    rw [List.length_map, List.length_map]
    rw [List.length_map] at hcap hcap2
    clear h1 h2 hle hb1 hc1 hb2 hc2
    go_enter Try.func42, Try.ntmps42
    go_wp2
    clear hli hln hlen
    go_loopw [5] (fun i wr => ∃ k : Nat, k ≤ ks.length ∧ i = .int .i64 (k : Int) ∧ (ks.take k = ls.take k) ∧ Below w.heap.size w wr) (fun i _ => ks.length - (intOf i).toNat)
    case atStart => exact ⟨0, by omega, rfl, by simp, hbel0⟩
    case round =>
      clear hbel0
      obtain ⟨k, hk, rfl, heq, hbel⟩ := hrel
      have HEQ := Lib.hid heq
      clear heq
      by_cases hlt : k < ks.length
      · have hlt2 : k < ls.length := by rw [← HL.out]; exact hlt
        have c1' := (HS1.out.below hbel).2 k (.int .i64 ks[k]) (by simp [hlt])
        have c2' := (HS2.out.below hbel).2 k (.int .i64 ls[k]) (by simp [hlt2])
        have g1 : (k : Int) < (ks.length : Int) := by omega
        have g2 : (k : Int) < (ls.length : Int) := by omega
        by_cases he : ks[k] = ls[k]
        · have hst : ks.take (k + 1) = ls.take (k + 1) := by
            rw [List.take_add_one, List.take_add_one, HEQ.out, List.getElem?_eq_getElem hlt, List.getElem?_eq_getElem hlt2, he]
          have HST := Lib.hid hst
          rw [he] at c1'
          clear hst he
          generalize ls[k] = y at *
          have q1 : (y == y) = true := by simp
          have q2 : (y != y) = false := by simp
          go_wp2_with fail
          go_quiet (fail)
          go_wp2
          go_roundw
          case rel => exact ⟨k + 1, by omega, by go_num, HST.out, hbel.drewN _⟩
          case measure => simp [intOf]; omega
        · have hd : decide (ks = ls) = false := by
            rw [decide_eq_false_iff_not]
            intro h
            subst h
            exact he rfl
          have HD := Lib.hid hd
          clear hd
          generalize ls[k] = y at *
          generalize ks[k] = x at *
          have q1 : (x == y) = false := by rw [beq_eq_false_iff_ne]; exact he
          have q2 : (x != y) = true := by rw [bne, q1]; rfl
          clear he
          go_wp2_with fail
          go_quiet (fail)
          go_wp2
          go_ret
          exact ⟨by rw [HD.out]; rfl, hbel.drewN _⟩
      · obtain rfl : k = ks.length := by omega
        have hd : decide (ks = ls) = true := by
          rw [decide_eq_true_eq]
          have := HEQ.out
          rwa [List.take_of_length_le (Nat.le_refl _), List.take_of_length_le (by rw [HL.out]; exact Nat.le_refl _)] at this
        have HD := Lib.hid hd
        clear hd
        go_wp2
        go_ret
        exact ⟨by rw [HD.out]; rfl, hbel⟩
  · have hd : decide (ks = ls) = false := by
      rw [decide_eq_false_iff_not]
      intro h
      subst h
      exact hlen rfl
    have HD := Lib.hid hd
    obtain ⟨a1, c1, rfl, -⟩ := h1
    obtain ⟨a2, c2, rfl, -⟩ := h2
    rw [List.length_map, List.length_map]
    have hli : ((ks.length : Int) == (ls.length : Int)) = false := by rw [beq_eq_false_iff_ne]; omega
    have hln : ((ks.length : Int) != (ls.length : Int)) = true := by rw [bne, hli]; rfl
    clear hd hlen
    go_enter Try.func42, Try.ntmps42
    go_wp2
    go_ret
    exact ⟨by rw [HD.out]; rfl, hbel0⟩
end Go.Proofs.Ytbdocgnhoomhcaa
