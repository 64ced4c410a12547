
/-
  The law of inner keys.
-/
import Derived.Test.YtdbfaknpfepnfaaGreatDoorCurKeysW
namespace Go.Proofs.YtdbfaknpfepnfaaGreatDoor
open Go.RowKit CodecP Cur

theorem packO_any (k : ByteArray) (n : Int) (w : World) :
    Calls Tryz.prog 11 #[.string k, .int .i64 n] w fun e w' => e = .returned (.tuple #[.string (if OkK (bl k) n then str (inn (bl k) n) else ⟨#[]⟩), .bool (decide (OkK (bl k) n))]) ∧ Below w.heap.size w w' := by
  refine (pack_any k n w).mono ?_
  rintro e w' ⟨hb, ⟨h, he⟩ | ⟨h, he⟩⟩
  · exact ⟨by rw [he, if_pos h, decide_eq_true h], hb⟩
  · exact ⟨by rw [he, if_neg h, decide_eq_false h], hb⟩
set_option maxRecDepth 100000 in
set_option maxHeartbeats 4000000 in
theorem cursorKeys_law (key : ByteArray) (seq : Int) (s : ByteArray) (w : World) (hkm : key.size ≤ maxLen) (hsm : s.size ≤ maxLen) :
    Calls Tryz.prog 3 #[.string key, .int .i64 seq, .string s] w fun e w' => e = .returned (.bool true) ∧ Below w.heap.size w w' := by
  unfold maxLen at hkm hsm
  have HAW := Lib.hid awake14_any
  by_cases hk : 300 < key.size
  · have d1 : decide ((300 : Int) < (key.size : Int)) = true := by rw [decide_eq_true_eq]; omega
    clear hk
    go_enter Tryz.func3, Tryz.ntmps3
    go_wp2_with fail
    (with_reducible refine (HAW.out _).mono ?_)
    rintro e w1 ⟨rfl, hb1⟩
    have HB1 := Lib.hid hb1
    clear hb1
    go_wp2_with fail
    go_ret
    exact ⟨rfl, HB1.out⟩
  · have d1 : decide ((300 : Int) < (key.size : Int)) = false := by rw [decide_eq_false_iff_not]; omega
    by_cases hs : 300 < s.size
    · have d2 : decide ((300 : Int) < (s.size : Int)) = true := by rw [decide_eq_true_eq]; omega
      clear hk hs
      go_enter Tryz.func3, Tryz.ntmps3
      go_wp2_with fail
      (with_reducible refine (HAW.out _).mono ?_)
      rintro e w1 ⟨rfl, hb1⟩
      have HB1 := Lib.hid hb1
      clear hb1
      go_wp2_with fail
      go_ret
      exact ⟨rfl, HB1.out⟩
    · have d2 : decide ((300 : Int) < (s.size : Int)) = false := by rw [decide_eq_false_iff_not]; omega
      have hpk := packO_any key seq w
      have hrt := fun W => lawRight_any key seq W (by unfold maxLen; omega)
      have hin := fun (n : Int) (W : World) (h0 : 0 ≤ n) (h1 : n ≤ 4611686018427387904) => inner_any key n W (by omega) h0 h1
      obtain ⟨O, hO⟩ : ∃ O, O = decide (OkK (bl key) seq) := ⟨_, rfl⟩
      obtain ⟨P, hP⟩ : ∃ P, P = (if OkK (bl key) seq then str (inn (bl key) seq) else ⟨#[]⟩) := ⟨_, rfl⟩
      rw [← hO, ← hP] at hpk
      rw [← hO] at hrt
      have HPK := Lib.hid hpk
      have HRT := Lib.hid hrt
      have HIN := Lib.hid hin
      have HO := Lib.hid hO
      have HP := Lib.hid hP
      have HUN := Lib.hid (fun W => unpack_any s W (by unfold maxLen; omega))
      clear hpk hrt hin hO hP hkm
      go_enter Tryz.func3, Tryz.ntmps3
      go_wp2_with fail
      (with_reducible refine HPK.out.mono ?_)
      rintro e w1 ⟨rfl, hb1⟩
      have HB1 := Lib.hid hb1
      clear hb1
      go_wp2_with fail
      (with_reducible refine (HRT.out _).mono ?_)
      rintro e w2 ⟨rfl, rfl⟩
      go_upto_if 30 with (fail)
      go_cut [6] (fun rv wx => rv = .bool false ∧ Below w.heap.size w wx)
      case first =>
        cases O with
        | false =>
          have hno := of_decide_eq_false HO.out.symm
          have hp0 := HP.out
          rw [if_neg hno] at hp0
          subst hp0
          clear hno
          go_wp2_with fail
          go_meet
          exact ⟨rfl, HB1.out⟩
        | true =>
          have hyes := of_decide_eq_true HO.out.symm
          have hp0 := HP.out
          rw [if_pos hyes] at hp0
          subst hp0
          have h0 := hyes.2.2.2.1
          have h1 := hyes.2.2.2.2
          have HI1 := Lib.hid (HIN.out seq w1 h0 h1)
          have e1 : ((str (inn (bl key) seq)).toList == (str (inn (bl key) seq)).toList) = true := by simp
          have e2 : ((str (inn (bl key) seq)).toList != (str (inn (bl key) seq)).toList) = false := by simp
          clear hyes
          by_cases hz : 0 < seq
          · have d5 : decide (0 < seq) = true := decide_eq_true hz
            have ws : IntKind.i64.wrap (seq - 1) = seq - 1 := IntWalk.i64_in _ (by omega)
            have HI2 := Lib.hid (fun W => HIN.out (seq - 1) W (by omega) (by omega))
            have hlt := inn_lt_seq (bl key) (n := seq) (n' := seq - 1) (by omega) (by omega) h1
            have f1 : Op.bytesLess (str (inn (bl key) seq)).toList (str (inn (bl key) (seq - 1))).toList = true := by rw [less_eq, bl_str, bl_str]; exact decide_eq_true hlt
            have f2 : Op.bytesLess (str (inn (bl key) (seq - 1))).toList (str (inn (bl key) seq)).toList = false := by
              rw [less_eq, bl_str, bl_str]
              exact decide_eq_false (fun h => List.lt_irrefl _ (List.lt_trans h hlt))
            have hne : inn (bl key) seq ≠ inn (bl key) (seq - 1) := fun e => by
              rw [e] at hlt
              exact List.lt_irrefl _ hlt
            have f3 : ((str (inn (bl key) seq)).toList == (str (inn (bl key) (seq - 1))).toList) = false := by
              rw [beq_eq_false_iff_ne]
              intro e
              rw [ByteArray.toList_eq, ByteArray.toList_eq] at e
              exact hne (by simpa [str] using e)
            have f4 : ((str (inn (bl key) (seq - 1))).toList == (str (inn (bl key) seq)).toList) = false := by
              rw [beq_eq_false_iff_ne]
              intro e
              rw [ByteArray.toList_eq, ByteArray.toList_eq] at e
              exact hne (by simpa [str] using e.symm)
            clear hlt hne
            generalize str (inn (bl key) seq) = y1 at *
            generalize str (inn (bl key) (seq - 1)) = y2 at *
            go_wp2_with fail
            (with_reducible refine HI1.out.mono ?_)
            rintro e w3 ⟨rfl, hb3⟩
            have HB3 := Lib.hid (HB1.out.trans (hb3.mono HB1.out.size))
            clear hb3
            go_wp2_with fail
            (with_reducible refine (HI2.out _).mono ?_)
            rintro e w4 ⟨rfl, hb4⟩
            have HB4 := Lib.hid (HB3.out.trans (hb4.mono HB3.out.size))
            clear hb4
            go_wp2_with fail
            go_meet
            exact ⟨rfl, HB4.out⟩
          · have d5 : decide (0 < seq) = false := decide_eq_false hz
            generalize str (inn (bl key) seq) = y1 at *
            go_wp2_with fail
            (with_reducible refine HI1.out.mono ?_)
            rintro e w3 ⟨rfl, hb3⟩
            have HB3 := Lib.hid (HB1.out.trans (hb3.mono HB1.out.size))
            clear hb3
            go_wp2_with fail
            go_meet
            exact ⟨rfl, HB3.out⟩
      case rest =>
        obtain ⟨rfl, hb2⟩ := hcut
        have HB2 := Lib.hid hb2
        clear hb2 HB1 HPK HRT HO HP
        go_wp2_with fail
        (with_reducible refine (HUN.out _).mono ?_)
        rintro e w3 ⟨hb3, ⟨k, n, hok, hsn, rfl⟩ | ⟨hno, rfl⟩⟩
        · have HB3 := Lib.hid (HB2.out.trans (hb3.mono HB2.out.size))
          have hkl := hok.2.1
          have HR := Lib.hid (fun W => lawRight_any (str k) n W (by rw [str_size]; unfold maxLen; omega))
          rw [bl_str, decide_eq_true hok] at HR
          have HI := Lib.hid (fun W => inner_any (str k) n W (by rw [str_size]; omega) hok.2.2.2.1 hok.2.2.2.2)
          rw [bl_str, ← hsn, str_bl] at HI
          have e1 : (s.toList == s.toList) = true := by simp
          clear hb3 hok hsn hkl
          go_wp2_with fail
          (with_reducible refine (HR.out _).mono ?_)
          rintro e w4 ⟨rfl, rfl⟩
          go_wp2_with fail
          (with_reducible refine (HI.out _).mono ?_)
          rintro e w5 ⟨rfl, hb5⟩
          have HB5 := Lib.hid (HB3.out.trans (hb5.mono HB3.out.size))
          clear hb5
          go_wp2_with fail
          (with_reducible refine (HAW.out _).mono ?_)
          rintro e w6 ⟨rfl, hb6⟩
          have HB6 := Lib.hid (HB5.out.trans (hb6.mono HB5.out.size))
          clear hb6
          go_wp2_with fail
          go_ret
          exact ⟨rfl, HB6.out⟩
        · have HB3 := Lib.hid (HB2.out.trans (hb3.mono HB2.out.size))
          have HNO := Lib.hid hno
          clear hb3 hno
          by_cases h10 : s.size < 10
          · have d7 : decide ((s.size : Int) < 10) = true := by rw [decide_eq_true_eq]; omega
            go_wp2_with fail
            (with_reducible refine (HAW.out _).mono ?_)
            rintro e w4 ⟨rfl, hb4⟩
            have HB4 := Lib.hid (HB3.out.trans (hb4.mono HB3.out.size))
            clear hb4
            go_wp2_with fail
            go_ret
            exact ⟨rfl, HB4.out⟩
          · have d7 : decide ((s.size : Int) < 10) = false := by rw [decide_eq_false_iff_not]; omega
            have s1 : IntKind.i64.wrap ((s.size : Int) - 9) = (s.size : Int) - 9 := IntWalk.i64_in _ (by omega)
            have s2 : IntKind.i64.wrap ((s.size : Int) - 8) = (s.size : Int) - 8 := IntWalk.i64_in _ (by omega)
            have s3 : ((s.size : Int) - 9).toNat = s.size - 9 := by omega
            have s4 : ((s.size : Int) - 8).toNat = s.size - 8 := by omega
            have s5 : (0 : Int) ≤ (s.size : Int) - 9 := by omega
            have s6 : (0 : Int) ≤ (s.size : Int) - 8 := by omega
            have s7 : (s.size : Int) - 9 ≤ (s.size : Int) := by omega
            have s8 : (s.size : Int) - 8 ≤ (s.size : Int) := by omega
            have HV := Lib.hid (fun W => value8_any (s.extract (s.size - 8) s.size) W (by rw [ByteArray.size_extract]; omega))
            obtain ⟨m, hm⟩ : ∃ m, m = value (bl (s.extract (s.size - 8) s.size)) := ⟨_, rfl⟩
            rw [← hm] at HV
            obtain ⟨n1, hn1⟩ : ∃ n1, IntKind.i64.wrap (m : Int) = n1 := ⟨_, rfl⟩
            obtain ⟨n2, hn2⟩ : ∃ n2, IntKind.i64.wrap (4611686018427387904 - n1) = n2 := ⟨_, rfl⟩
            obtain ⟨t, ht⟩ : ∃ t, t = s.extract 0 (s.size - 9) := ⟨_, rfl⟩
            have htz : t.size ≤ 300 := by rw [ht, ByteArray.size_extract]; omega
            have HR := Lib.hid (fun W => lawRight_any t n2 W (by unfold maxLen; omega))
            have HT := Lib.hid ht.symm
            by_cases hok : OkK (bl t) n2
            · rw [decide_eq_true hok] at HR
              have HI := Lib.hid (fun W => inner_any t n2 W (by omega) hok.2.2.2.1 hok.2.2.2.2)
              have hne := HNO.out _ _ hok
              have e1 : ((str (inn (bl t) n2)).toList == s.toList) = false := by
                rw [beq_eq_false_iff_ne]
                intro e
                rw [ByteArray.toList_eq, ByteArray.toList_eq] at e
                exact hne ((show (str (inn (bl t) n2)).data.toList = bl s from e).symm.trans (bl_str _))
              have e2 : ((str (inn (bl t) n2)).toList != s.toList) = true := by rw [bne, e1]; rfl
              clear hm ht htz hok hne
              go_wp2_with fail
              (with_reducible refine (HV.out _).mono ?_)
              rintro e w4 ⟨rfl, rfl⟩
              go_wp2_with fail
              rw [HT.out]
              (with_reducible refine (HR.out _).mono ?_)
              rintro e w4 ⟨rfl, rfl⟩
              go_wp2_with fail
              rw [HT.out]
              (with_reducible refine (HI.out _).mono ?_)
              rintro e w5 ⟨rfl, hb5⟩
              have HB5 := Lib.hid (HB3.out.trans (hb5.mono HB3.out.size))
              clear hb5
              go_wp2_with fail
              (with_reducible refine (HAW.out _).mono ?_)
              rintro e w6 ⟨rfl, hb6⟩
              have HB6 := Lib.hid (HB5.out.trans (hb6.mono HB5.out.size))
              clear hb6
              go_wp2_with fail
              go_ret
              exact ⟨rfl, HB6.out⟩
            · rw [decide_eq_false hok] at HR
              clear hm ht htz hok
              go_wp2_with fail
              (with_reducible refine (HV.out _).mono ?_)
              rintro e w4 ⟨rfl, rfl⟩
              go_wp2_with fail
              rw [HT.out]
              (with_reducible refine (HR.out _).mono ?_)
              rintro e w4 ⟨rfl, rfl⟩
              go_wp2_with fail
              (with_reducible refine (HAW.out _).mono ?_)
              rintro e w6 ⟨rfl, hb6⟩
              have HB6 := Lib.hid (HB3.out.trans (hb6.mono HB3.out.size))
              clear hb6
              go_wp2_with fail
              go_ret
              exact ⟨rfl, HB6.out⟩
end Go.Proofs.YtdbfaknpfepnfaaGreatDoor
