
/-
  The walk of block's Open.
-/
import Derived.Test.YtcoicdaobgneeaaBOpenP
namespace Go.Proofs.Ytcoicdaobgneeaa
open Go.RowKit CodecP

/-- A block at p of the pairs l, its restarts v. -/
structure Bk (w : World) (B p : Nat) (v : Value) (l : List Pr) : Prop where
  cells : w.heap[p]? = some (.cells #[.string (str (dat l)), v, .int .i64 l.length] 73 (0, 0))
  row : w.ownsRow B 3 1 v (rst l).length ((rst l).map fun n : Nat => Value.int .i64 n)
  rise : Rise l
  at_ : B ≤ p
set_option maxRecDepth 100000 in
set_option maxHeartbeats 2000000 in
theorem open_any (s : ByteArray) (w : World) (hs : s.size ≤ 100000000) :
    Calls Try.prog 18 #[.string s] w fun e w' => Below w.heap.size w w' ∧
      ((e = .returned (.tuple #[.pointer none, .int .i64 3]) ∧ ∀ Ps, Rise Ps → bl s ≠ blk Ps) ∨
       (∃ ps p v, bl s = blk ps ∧ e = .returned (.tuple #[(Value.pointer (some ⟨p, 0, none⟩)), .int .i64 0]) ∧ Bk w' w.heap.size p v ps)) := by
  have HTL := Lib.hid (tail_any s w (by omega))
  have HRD := Lib.hid read_o
  have HST := Lib.hid step_any
  have HGD := Lib.hid good_o
  have HLS : Hid (∀ (p : Nat) (l : List UInt8) (w : World), RO w p (some l) → Calls Try.prog 38 #[(Value.pointer (some ⟨p, 0, none⟩))] w fun e w' => e = .returned (.int .i64 (l.length : Nat)) ∧ w = w') := Lib.hid fun p l w h => left_o p (some l) w h
  have HEN := Lib.hid end_o
  have eb := bl_size s
  go_enter Try.func18, Try.ntmps18
  go_wp2_with fail
  (with_reducible refine HTL.out.mono ?_)
  rintro e w1 ⟨hb1, ⟨hno, rfl⟩ | ⟨hok, v, rfl, hrow⟩⟩
  · have HB1 := Lib.hid hb1
    have HNO := Lib.hid hno
    clear hb1 hno
    go_wp2_with fail
    exact bodyPost_ret (v := .tuple #[.pointer none, .int .i64 3]) (by simp [results, Try.results18, go_sem]) rfl ⟨HB1.out, .inl ⟨rfl, fun Ps hP e => HNO.out (by rw [e]; exact (blk_tail Ps hP).1)⟩⟩
  · obtain ⟨ao, cp, hv⟩ := own_form hrow
    subst hv
    have HB1 := Lib.hid hb1
    have HOK := Lib.hid hok
    have HROW := Lib.hid hrow
    have hle : tailE (bl s) ≤ s.size := by unfold tailE; omega
    have ex : s.extract 0 (tailE (bl s)) = str ((bl s).take (tailE (bl s))) := by
      rw [← str_bl (s.extract _ _), ext_bl, List.drop_zero, Nat.sub_zero]
    have HEX := Lib.hid ex
    clear hb1 hok hrow ex
    go_wp2_with fail
    rw [HEX.out]
    (with_reducible refine (HRD.out _ _ ?_).mono ?_)
    · rw [← HEX.out, ByteArray.size_extract]; unfold maxLen; omega
    rintro e w2 ⟨rfl, h2, hf2⟩
    rw [bl_str] at h2
    have hsz1 := HB1.out.size
    rw [show ∀ o, (w1.alloc o).heap.size = w1.heap.size + 1 from fun o => by simp] at h2 hf2 ⊢
    have hc2 : w2.heap[w1.heap.size]? = some (.cells #[.string (str ((bl s).take (tailE (bl s)))), .slice ao (tailN (bl s)) cp, .int .i64 0] 73 (0, 0)) := by
      rw [hf2.block _ (Nat.lt_succ_self _)]
      show (w1.heap.push _)[w1.heap.size]? = _
      simp
    have hb2 : Below w1.heap.size w1 w2 := ((Below.refl w1.heap.size w1).alloc (Nat.le_refl _) _).trans (hf2.mono (Nat.le_succ _))
    have H2 := Lib.hid h2
    have HC2 := Lib.hid hc2
    have HB2 := Lib.hid hb2
    clear h2 hf2 hc2 hb2
    go_wp2_with fail
    go_loopg [9] (tailE (bl s)) (fun g lv wr => ∃ (ps : List Pr) (rest : List UInt8), rest.length = g ∧ lv = .string (str (lastK ps)) ∧ InvO (bl s) ps rest ∧ RO wr (w1.heap.size + 1) (some rest) ∧
      wr.heap[w1.heap.size]? = some (.cells #[.string (str ((bl s).take (tailE (bl s)))), .slice ao (tailN (bl s)) cp, .int .i64 ps.length] 73 (0, 0)) ∧ Below w1.heap.size w1 wr)
    case atStart => exact ⟨[], _, by rw [List.length_take, eb]; omega, rfl, InvO.start _, H2.out, HC2.out, HB2.out⟩
    case round =>
      obtain ⟨ps, rest, hg, rfl, hI, hR, hC, hB⟩ := hrel
      have HI := Lib.hid hI
      have HR := Lib.hid hR
      have HC := Lib.hid hC
      have HB := Lib.hid hB
      have cb := cellOf2 (o := 2) hC rfl
      have hpl := hI.rise.le
      clear hI hR hC hB
      by_cases hr0 : rest = []
      · have d0 : decide ((0 : Int) < (rest.length : Int)) = false := by rw [decide_eq_false_iff_not, hr0]; decide
        go_wp2_with fail
        (with_reducible refine (HLS.out _ _ _ HR.out).mono ?_)
        rintro e w4 ⟨rfl, rfl⟩
        go_wp2_with fail
        subst hr0
        (with_reducible refine (HEN.out _ _ _ HR.out).mono ?_)
        rintro e w4 ⟨rfl, rfl⟩
        rw [show decide (some ([] : List UInt8) = some []) = true from decide_eq_true rfl]
        by_cases hn : tailN (bl s) = (ps.length + 7) / 8
        · have d1 : ((tailN (bl s) : Int) != ((ps.length : Int) + 8 - 1) / 8) = false := by rw [bne_eq_false_iff_eq]; omega
          go_wp2_with fail
          have hrs : (List.range (tailN (bl s))).map (tailR (bl s)) = rst ps := by
            rw [HI.out.rs_, List.take_of_length_le]
            rw [List.length_map, List.length_range, rst_len, hn]
            exact Nat.le_refl _
          have hrow : wr.ownsRow w.heap.size 3 1 (.slice ao (tailN (bl s)) cp) (rst ps).length ((rst ps).map fun n : Nat => Value.int .i64 n) := by
            have h := owns_of_block HROW.out (fun j hj => HB.out.block j (HROW.out.lt j hj).2)
            rw [← hrs, List.length_map, List.length_range, List.map_map]
            exact h
          have hcell := HC.out
          rw [HI.out.data, List.append_nil] at hcell
          exact bodyPost_ret (v := .tuple #[(Value.pointer (some ⟨w1.heap.size, 0, none⟩)), .int .i64 0]) (by simp [results, Try.results18, go_sem]) rfl ⟨HB1.out.trans (HB.out.mono hsz1), .inr ⟨ps, _, _, HI.out.done HOK.out hn, rfl, hcell, hrow, HI.out.rise, hsz1⟩⟩
        · have d1 : ((tailN (bl s) : Int) != ((ps.length : Int) + 8 - 1) / 8) = true := by rw [bne_iff_ne]; omega
          go_wp2_with fail
          exact bodyPost_ret (v := .tuple #[.pointer none, .int .i64 3]) (by simp [results, Try.results18, go_sem]) rfl ⟨HB1.out.trans (HB.out.mono hsz1), .inl ⟨rfl, fun Ps hP e => HI.out.no hn hP e⟩⟩
      · have hpos : 0 < rest.length := List.length_pos_iff.2 hr0
        have d0 : decide ((0 : Int) < (rest.length : Int)) = true := by rw [decide_eq_true_eq]; omega
        have hdl : tailE (bl s) = (dat ps).length + rest.length := by
          have := congrArg List.length HI.out.data
          rw [List.length_take, List.length_append, eb] at this
          omega
        have hat : ((tailE (bl s) : Int) - (rest.length : Int)) = ((dat ps).length : Int) := by omega
        clear hdl
        have hlk : (str (lastK ps)).size ≤ 1000000 := by
          rw [show (str (lastK ps)).size = (lastK ps).length by simp [str, ByteArray.size]]
          rcases List.eq_nil_or_concat ps with e | ⟨q, z, e⟩
          · rw [e]; exact Nat.zero_le _
          · rw [e, List.concat_eq_append, lastK_snoc]
            have := (HI.out.rise.ok z (by rw [e]; simp)).2.1
            omega
        have hx : ∃ X, X = stepF (lastK ps) (some rest) := ⟨_, rfl⟩
        obtain ⟨X, hX⟩ := hx
        have HX := Lib.hid hX
        have HSS := Lib.hid (HST.out (w1.heap.size + 1) (str (lastK ps)) (some rest) wr HR.out hlk)
        rw [bl_str, ← HX.out] at HSS
        clear hX
        go_wp2_with fail
        (with_reducible refine (HLS.out _ _ _ HR.out).mono ?_)
        rintro e w4 ⟨rfl, rfl⟩
        go_wp2_with fail
        (with_reducible refine (HLS.out _ _ _ HR.out).mono ?_)
        rintro e w4 ⟨rfl, rfl⟩
        go_wp2_with fail
        (with_reducible refine HSS.out.mono ?_)
        rintro e w4 ⟨rfl, h4, hf4⟩
        have hC4 : w4.heap[w1.heap.size]? = _ := (hf4.block _ (lt_of_block HC.out) (fun e => by unfold RdS at e; omega)).trans HC.out
        have H4 := Lib.hid h4
        have HC4 := Lib.hid hC4
        have cb4 := cellOf2 (o := 2) hC4 rfl
        have HB4 : Hid (Below w1.heap.size w1 w4) := Lib.hid (HB.out.trans (hf4.below HB.out.size (fun k _ hk => by unfold RdS at hk; omega)))
        clear h4 hf4 hC4
        have hp5 : (w4.alloc (.cells #[.string (str (prO X).1), .string (str (prO X).2)] 48)).heap[w4.heap.size]? = some (.cells #[.string (str (prO X).1), .string (str (prO X).2)] 48 (0, 0)) := by
          show (w4.heap.push _)[w4.heap.size]? = _
          simp
        have h5 : Fr (fun _ => False) w4 (w4.alloc (.cells #[.string (str (prO X).1), .string (str (prO X).2)] 48)) := (Fr.refl _ w4).alloc _
        have H5 := Lib.hid (H4.out.keep h5 (fun h => h))
        have hc5 := (h5.block w1.heap.size (lt_of_block HC4.out) (fun h => h)).trans HC4.out
        have HC5 := Lib.hid hc5
        have HP5 := Lib.hid hp5
        have HB5 := Lib.hid (HB4.out.trans (h5.below HB4.out.size (fun _ _ h => h.elim)))
        clear hp5 h5 hc5
        go_upto_region 10 with (fail)
        generalize w4.alloc (.cells #[.string (str (prO X).1), .string (str (prO X).2)] 48) = w5 at *
        have cb5 := cellOf2 (o := 2) HC5.out rfl
        have f2 := free_of2 2 HC5.out
        have k0 := cellOf2 (o := 0) HP5.out rfl
        have k1 := cellOf2 (o := 1) HP5.out rfl
        by_cases h8 : ps.length % 8 = 0
        · have d8 : (((ps.length : Int) % 8) == 0) = true := by rw [beq_iff_eq]; omega
          by_cases q1 : ps.length / 8 < tailN (bl s)
          · have d1 : decide ((tailN (bl s) : Int) ≤ (ps.length : Int) / 8) = false := by rw [decide_eq_false_iff_not]; omega
            have hrow5 := owns_of_block HROW.out (fun j hj => HB5.out.block j (HROW.out.lt j hj).2)
            obtain ⟨g6, cp6, hv6, _, hg6, hc6, hm6, hcell6⟩ := own_pos hrow5 (by omega)
            injection hv6 with hv6 _ hv6'
            subst hv6 hv6'
            have hc7 := hcell6 (ps.length / 8) (.int .i64 (tailR (bl s) (ps.length / 8))) (by rw [List.getElem?_map, List.getElem?_range q1]; rfl)
            have hq : ((ps.length : Int) / 8).toNat = ps.length / 8 := by omega
            have hq2 : (0 : Int) ≤ (ps.length : Int) / 8 := by omega
            have hq3 : (ps.length : Int) / 8 < (tailN (bl s) : Int) := by omega
            clear hcell6 hrow5
            by_cases q4 : tailR (bl s) (ps.length / 8) = (dat ps).length
            · have d4 : ((tailR (bl s) (ps.length / 8) : Int) != ((dat ps).length : Int)) = false := by rw [bne_eq_false_iff_eq]; omega
              by_cases q5 : smO X = 0
              · have d5 : ((smO X : Int) != 0) = false := by rw [bne_eq_false_iff_eq]; omega
                go_wp2_with fail
                (with_reducible refine (HGD.out _ _ _ H5.out).mono ?_)
                rintro e w6 ⟨rfl, rfl⟩
                rcases X with _ | ⟨pk, same, rest2⟩
                · rw [show (rsO none).isSome = false from rfl]
                  go_wp2_with fail
                  exact bodyPost_ret (v := .tuple #[.pointer none, .int .i64 3]) (by simp [results, Try.results18, go_sem]) rfl ⟨HB1.out.trans (HB5.out.mono hsz1), .inl ⟨rfl, fun Ps hP e => by
                    obtain ⟨p, r, -, hst, ho, hl, hn, h⟩ := HI.out.step hr0 hP e
                    rw [← HX.out] at hst; cases hst⟩⟩
                · rw [show (rsO (some (pk, same, rest2))).isSome = true from rfl]
                  simp only [show prO (some (pk, same, rest2)) = pk from rfl, show smO (some (pk, same, rest2)) = same from rfl, show rsO (some (pk, same, rest2)) = some rest2 from rfl] at *
                  obtain ⟨es1, es2, es3, es4, es5, es6⟩ := ent_stepF HX.out.symm
                  rw [show (str (lastK ps)).size = (lastK ps).length by simp [str, ByteArray.size]] at hlk
                  have z1 : (str pk.1).size = pk.1.length := by simp [str, ByteArray.size]
                  have z2 : (str pk.2).size = pk.2.length := by simp [str, ByteArray.size]
                  by_cases hok : Okp pk
                  · have HRY := Lib.hid (right_yes (str pk.1) (str pk.2) w5 (by rw [bl_str, bl_str]; exact hok))
                    by_cases hlt : lastK ps < pk.1
                    · obtain ⟨g1, g2⟩ := leq_no (a := str pk.1) (b := str (lastK ps)) (by rw [bl_str, bl_str]; exact hlt)
                      by_cases hn : ps.length = 4096
                      · have d6 : ((ps.length : Int) == 4096) = true := by rw [beq_iff_eq]; omega
                        go_wp2_with fail
                        (with_reducible refine HRY.out.mono ?_)
                        rintro e w6 ⟨rfl, rfl⟩
                        go_wp2_with fail
                        exact bodyPost_ret (v := .tuple #[.pointer none, .int .i64 3]) (by simp [results, Try.results18, go_sem]) rfl ⟨HB1.out.trans (HB5.out.mono hsz1), .inl ⟨rfl, fun Ps hP e => by
                    obtain ⟨p, r, -, hst, ho, hl, hn2, h⟩ := HI.out.step hr0 hP e
                    omega⟩⟩
                      · have d6 : ((ps.length : Int) == 4096) = false := by rw [beq_eq_false_iff_ne]; omega
                        go_wp2_with fail
                        (with_reducible refine HRY.out.mono ?_)
                        rintro e w6 ⟨rfl, rfl⟩
                        go_wp2_with fail
                        have hNX : InvO (bl s) (ps ++ [pk]) rest2 := HI.out.next hr0 HX.out.symm hok hlt (by omega) (fun _ => ⟨q1, q4, q5⟩) (fun h => absurd h8 h)
                        have hFS : Fr (fun k => k = w1.heap.size) w5 (w5.setCell ⟨w1.heap.size, 2, none⟩ (.int .i64 ((ps.length : Int) + 1))) := (Fr.refl (fun k => k = w1.heap.size) w5).setCell (p := ⟨w1.heap.size, 2, none⟩) (.inl rfl) _
                        have HNX := Lib.hid hNX
                        have HFS := Lib.hid hFS
                        clear hNX hFS
                        go_roundg rest2.length
                        case measure =>
                          injection es1 with es1
                          have e1 := congrArg List.length es1
                          rw [List.length_append] at e1
                          have e2 := hok.1
                          have e3 : 0 < (ent same pk).length := by
                            have := grp_pos same
                            unfold ent
                            simp only [List.length_append]
                            omega
                          omega
                        case rel =>
                          refine ⟨ps ++ [pk], rest2, rfl, by rw [lastK_snoc], HNX.out, H5.out.keep HFS.out (fun e => by omega), ?_, HB5.out.trans (HFS.out.below HB5.out.size (fun k _ e => by omega))⟩
                          have h := setAt2 (o := 2) (.int .i64 ((ps.length : Int) + 1)) HC5.out
                          rw [List.length_append, List.length_singleton]
                          exact h
                    · have g1 := leq_yes (a := str pk.1) (b := str (lastK ps)) (by rw [bl_str, bl_str]; exact hlt)
                      go_wp2_with fail
                      (with_reducible refine HRY.out.mono ?_)
                      rintro e w6 ⟨rfl, rfl⟩
                      go_wp2_with fail
                      exact bodyPost_ret (v := .tuple #[.pointer none, .int .i64 3]) (by simp [results, Try.results18, go_sem]) rfl ⟨HB1.out.trans (HB5.out.mono hsz1), .inl ⟨rfl, fun Ps hP e => by
                    obtain ⟨p, r, -, hst, ho, hl, hn, h⟩ := HI.out.step hr0 hP e
                    (rw [← HX.out, Option.some.injEq, Prod.mk.injEq] at hst; obtain ⟨rfl, -⟩ := hst; exact hlt hl)⟩⟩
                  · have HRN := Lib.hid (right_no (str pk.1) (str pk.2) w5 (by unfold maxLen; omega) (by unfold maxLen; omega) (by rw [bl_str, bl_str]; exact hok))
                    go_wp2_with fail
                    (with_reducible refine HRN.out.mono ?_)
                    rintro e w6 ⟨rfl, rfl⟩
                    go_wp2_with fail
                    exact bodyPost_ret (v := .tuple #[.pointer none, .int .i64 3]) (by simp [results, Try.results18, go_sem]) rfl ⟨HB1.out.trans (HB5.out.mono hsz1), .inl ⟨rfl, fun Ps hP e => by
                    obtain ⟨p, r, -, hst, ho, hl, hn, h⟩ := HI.out.step hr0 hP e
                    (rw [← HX.out, Option.some.injEq, Prod.mk.injEq] at hst; obtain ⟨rfl, -⟩ := hst; exact hok ho)⟩⟩
              · have d5 : ((smO X : Int) != 0) = true := by rw [bne_iff_ne]; omega
                go_wp2_with fail
                exact bodyPost_ret (v := .tuple #[.pointer none, .int .i64 3]) (by simp [results, Try.results18, go_sem]) rfl ⟨HB1.out.trans (HB5.out.mono hsz1), .inl ⟨rfl, fun Ps hP e => by
                  obtain ⟨p, r, -, hst, ho, hl, hn, h⟩ := HI.out.step hr0 hP e
                  (rw [← HX.out] at hst; subst hst; exact q5 (by show sameOf _ _ _ = 0; unfold sameOf; rw [if_pos h8]))⟩⟩
            · have d4 : ((tailR (bl s) (ps.length / 8) : Int) != ((dat ps).length : Int)) = true := by rw [bne_iff_ne]; omega
              go_wp2_with fail
              exact bodyPost_ret (v := .tuple #[.pointer none, .int .i64 3]) (by simp [results, Try.results18, go_sem]) rfl ⟨HB1.out.trans (HB5.out.mono hsz1), .inl ⟨rfl, fun Ps hP e => by
                  obtain ⟨p, r, -, hst, ho, hl, hn, h⟩ := HI.out.step hr0 hP e
                  exact q4 (h h8).2⟩⟩
          · have d1 : decide ((tailN (bl s) : Int) ≤ (ps.length : Int) / 8) = true := by rw [decide_eq_true_eq]; omega
            go_wp2_with fail
            exact bodyPost_ret (v := .tuple #[.pointer none, .int .i64 3]) (by simp [results, Try.results18, go_sem]) rfl ⟨HB1.out.trans (HB5.out.mono hsz1), .inl ⟨rfl, fun Ps hP e => by
              obtain ⟨p, r, -, -, -, -, -, h⟩ := HI.out.step hr0 hP e
              exact q1 (h h8).1⟩⟩
        · have d8 : (((ps.length : Int) % 8) == 0) = false := by rw [beq_eq_false_iff_ne]; omega
          go_wp2_with fail
          (with_reducible refine (HGD.out _ _ _ H5.out).mono ?_)
          rintro e w6 ⟨rfl, rfl⟩
          rcases X with _ | ⟨pk, same, rest2⟩
          · rw [show (rsO none).isSome = false from rfl]
            go_wp2_with fail
            exact bodyPost_ret (v := .tuple #[.pointer none, .int .i64 3]) (by simp [results, Try.results18, go_sem]) rfl ⟨HB1.out.trans (HB5.out.mono hsz1), .inl ⟨rfl, fun Ps hP e => by
              obtain ⟨p, r, -, hst, ho, hl, hn, h⟩ := HI.out.step hr0 hP e
              rw [← HX.out] at hst; cases hst⟩⟩
          · rw [show (rsO (some (pk, same, rest2))).isSome = true from rfl]
            simp only [show prO (some (pk, same, rest2)) = pk from rfl, show smO (some (pk, same, rest2)) = same from rfl, show rsO (some (pk, same, rest2)) = some rest2 from rfl] at *
            obtain ⟨es1, es2, es3, es4, es5, es6⟩ := ent_stepF HX.out.symm
            rw [show (str (lastK ps)).size = (lastK ps).length by simp [str, ByteArray.size]] at hlk
            have z1 : (str pk.1).size = pk.1.length := by simp [str, ByteArray.size]
            have z2 : (str pk.2).size = pk.2.length := by simp [str, ByteArray.size]
            by_cases hok : Okp pk
            · have HRY := Lib.hid (right_yes (str pk.1) (str pk.2) w5 (by rw [bl_str, bl_str]; exact hok))
              by_cases hlt : lastK ps < pk.1
              · obtain ⟨g1, g2⟩ := leq_no (a := str pk.1) (b := str (lastK ps)) (by rw [bl_str, bl_str]; exact hlt)
                have HCM := Lib.hid (common_any (str (lastK ps)) (str pk.1) w5 (by unfold maxLen; rw [show (str (lastK ps)).size = (lastK ps).length by simp [str, ByteArray.size]]; omega) (by unfold maxLen; omega))
                rw [bl_str, bl_str] at HCM
                by_cases hcm : same = cmn (lastK ps) pk.1
                · have d9 : ((same : Int) != (cmn (lastK ps) pk.1 : Int)) = false := by rw [bne_eq_false_iff_eq]; omega
                  go_wp2_with fail
                  (with_reducible refine HRY.out.mono ?_)
                  rintro e w6 ⟨rfl, rfl⟩
                  go_wp2_with fail
                  (with_reducible refine HCM.out.mono ?_)
                  rintro e w6 ⟨rfl, hb6⟩
                  have hf6 := Fr.of_below (fun _ => False) hb6
                  have H6 := Lib.hid (H5.out.keep hf6 (fun h => h))
                  have hc6 := (hf6.block w1.heap.size (lt_of_block HC5.out) (fun h => h)).trans HC5.out
                  have HC6 := Lib.hid hc6
                  have cb6 := cellOf2 (o := 2) hc6 rfl
                  have f6 := free_of2 2 hc6
                  have hp6 := (hf6.block w4.heap.size (lt_of_block HP5.out) (fun h => h)).trans HP5.out
                  have k60 := cellOf2 (o := 0) hp6 rfl
                  have HB6 := Lib.hid (HB5.out.trans (hf6.below HB5.out.size (fun _ _ h => h.elim)))
                  clear hf6 hb6 hc6 hp6
                  by_cases hn : ps.length = 4096
                  · exact absurd (by rw [hn]) h8
                  · have d6 : ((ps.length : Int) == 4096) = false := by rw [beq_eq_false_iff_ne]; omega
                    go_wp2_with fail
                    have hNX : InvO (bl s) (ps ++ [pk]) rest2 := HI.out.next hr0 HX.out.symm hok hlt (by omega) (fun h => absurd h h8) (fun _ => hcm)
                    have hFS : Fr (fun k => k = w1.heap.size) w6 (w6.setCell ⟨w1.heap.size, 2, none⟩ (.int .i64 ((ps.length : Int) + 1))) := (Fr.refl (fun k => k = w1.heap.size) w6).setCell (p := ⟨w1.heap.size, 2, none⟩) (.inl rfl) _
                    have HNX := Lib.hid hNX
                    have HFS := Lib.hid hFS
                    clear hNX hFS
                    go_roundg rest2.length
                    case measure =>
                      injection es1 with es1
                      have e1 := congrArg List.length es1
                      rw [List.length_append] at e1
                      have e2 := hok.1
                      have e3 : 0 < (ent same pk).length := by
                        have := grp_pos same
                        unfold ent
                        simp only [List.length_append]
                        omega
                      omega
                    case rel =>
                      refine ⟨ps ++ [pk], rest2, rfl, by rw [lastK_snoc], HNX.out, H6.out.keep HFS.out (fun e => by omega), ?_, HB6.out.trans (HFS.out.below HB6.out.size (fun k _ e => by omega))⟩
                      have h := setAt2 (o := 2) (.int .i64 ((ps.length : Int) + 1)) HC6.out
                      rw [List.length_append, List.length_singleton]
                      exact h
                · have d9 : ((same : Int) != (cmn (lastK ps) pk.1 : Int)) = true := by rw [bne_iff_ne]; omega
                  go_wp2_with fail
                  (with_reducible refine HRY.out.mono ?_)
                  rintro e w6 ⟨rfl, rfl⟩
                  go_wp2_with fail
                  (with_reducible refine HCM.out.mono ?_)
                  rintro e w6 ⟨rfl, hb6⟩
                  have HB6 := Lib.hid (HB5.out.trans ((Fr.of_below (fun _ => False) hb6).below HB5.out.size (fun _ _ h => h.elim)))
                  clear hb6
                  go_wp2_with fail
                  exact bodyPost_ret (v := .tuple #[.pointer none, .int .i64 3]) (by simp [results, Try.results18, go_sem]) rfl ⟨HB1.out.trans (HB6.out.mono hsz1), .inl ⟨rfl, fun Ps hP e => by
                    obtain ⟨p, r, -, hst, ho, hl, hn, h⟩ := HI.out.step hr0 hP e
                    rw [← HX.out, Option.some.injEq, Prod.mk.injEq] at hst
                    obtain ⟨rfl, hst⟩ := hst
                    have hst := congrArg Prod.fst hst
                    exact hcm (hst.trans (by show sameOf _ _ _ = _; unfold sameOf; rw [if_neg h8]))⟩⟩
              · have g1 := leq_yes (a := str pk.1) (b := str (lastK ps)) (by rw [bl_str, bl_str]; exact hlt)
                go_wp2_with fail
                (with_reducible refine HRY.out.mono ?_)
                rintro e w6 ⟨rfl, rfl⟩
                go_wp2_with fail
                exact bodyPost_ret (v := .tuple #[.pointer none, .int .i64 3]) (by simp [results, Try.results18, go_sem]) rfl ⟨HB1.out.trans (HB5.out.mono hsz1), .inl ⟨rfl, fun Ps hP e => by
                  obtain ⟨p, r, -, hst, ho, hl, hn, h⟩ := HI.out.step hr0 hP e
                  (rw [← HX.out, Option.some.injEq, Prod.mk.injEq] at hst; obtain ⟨rfl, -⟩ := hst; exact hlt hl)⟩⟩
            · have HRN := Lib.hid (right_no (str pk.1) (str pk.2) w5 (by unfold maxLen; omega) (by unfold maxLen; omega) (by rw [bl_str, bl_str]; exact hok))
              go_wp2_with fail
              (with_reducible refine HRN.out.mono ?_)
              rintro e w6 ⟨rfl, rfl⟩
              go_wp2_with fail
              exact bodyPost_ret (v := .tuple #[.pointer none, .int .i64 3]) (by simp [results, Try.results18, go_sem]) rfl ⟨HB1.out.trans (HB5.out.mono hsz1), .inl ⟨rfl, fun Ps hP e => by
                obtain ⟨p, r, -, hst, ho, hl, hn, h⟩ := HI.out.step hr0 hP e
                (rw [← HX.out, Option.some.injEq, Prod.mk.injEq] at hst; obtain ⟨rfl, -⟩ := hst; exact hok ho)⟩⟩
end Go.Proofs.Ytcoicdaobgneeaa
