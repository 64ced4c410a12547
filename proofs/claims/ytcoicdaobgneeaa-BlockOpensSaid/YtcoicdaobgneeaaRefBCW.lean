
/-
  The walk of the document's Bytes.
-/
import Derived.Test.YtcoicdaobgneeaaRefBBW
import Derived.Deep.CutBlock
import Derived.Deep.DeepCutAuto
namespace Go.Proofs.Ytcoicdaobgneeaa
open Go.RowKit CodecP

theorem wpList_append_u8 {w : World} {ops : Array Oper} {rest : List Oper} {o : Oper} {a : Act} {Q : Exit → Act → World → Prop} (hgd : o.guard = none) (sl x : Operand)
    (ho : o.op = .call { callee := .builtin .append, args := #[sl, x], argTypes := #[26, 9] })
    (base : Nat) (v : Value) (n : Nat) (l : List UInt8) (hs : a.eval sl = v) (hown : w.ownsRow base 5 1 v n (u8s l)) (s : ByteArray) (hx : a.eval x = .string s)
    (hb : n + s.size ≤ 1099511627776) (hbase : base ≤ w.heap.size)
    (h : ∀ v' w', w'.ownsRow base 5 1 v' (n + s.size) (u8s (l ++ bl s)) → w.grownBy w' v.ownBlock → wpList Try.prog ops Q rest (a.put o.dst v') w') : wpList Try.prog ops Q (o :: rest) a w := by
  obtain ⟨i0, hi, hz0, hz1, hz2⟩ := info_parts info_u8b
  refine Lib.wpList_append_own_string w hgd sl x 26 9 ho base 5 i0 Try.underlying26 Try.underlying9 hi hz0 hz1 hz2 v n (u8s l) hs hown s hx (by unfold maxLen; omega) (by omega) hbase (fun v' w' h1 h2 _ => h v' w' ?_ h2)
  rw [u8s_append]
  exact h1
theorem refFixed4_any (n : Nat) (w : World) (hn : n < 18446744073709551616) :
    Calls Try.prog 33 #[.int .u64 n, .int .i64 4] w fun e w' => e = .returned (.string (str (fixed 4 n))) ∧ Below w.heap.size w w' := refFixed_any n 4 w (by decide) hn
theorem own_len {w : World} {B n : Nat} {v : Value} {l : List UInt8} (h : w.ownsRow B 5 1 v n (u8s l)) : w.ownsRow B 5 1 v l.length (u8s l) := by
  have := h.1
  rw [u8s_length, Nat.mul_one] at this
  rw [this]; exact h
/-- What stands at each round's beginning. -/
structure RB (w wr : World) (L : List Pr) (i : Nat) (bv : Value) : Prop where
  own : wr.ownsRow w.heap.size 5 1 bv (dat (L.take i)).length (u8s (dat (L.take i)))
  bel : Below w.heap.size w wr
def tailS (L : List Pr) (i : Nat) : ByteArray := str ((rst (L.take i)).flatMap (fixed 4))
theorem fm4 (l : List Nat) : (l.flatMap (fixed 4)).length = 4 * l.length := by
  induction l with
  | nil => rfl
  | cons a l ih => rw [List.flatMap_cons, List.length_append, ih, fixed_length, List.length_cons]; omega
theorem lastK_take (L : List Pr) (i : Nat) (h0 : 0 < i) (h : i ≤ L.length) : lastK (L.take i) = (L[i - 1]'(by omega)).1 := by
  obtain ⟨j, rfl⟩ : ∃ j, i = j + 1 := ⟨i - 1, by omega⟩
  rw [List.take_succ_eq_append_getElem (by omega), lastK_snoc]; rfl
set_option maxRecDepth 100000 in
set_option maxHeartbeats 4000000 in
theorem refBytes_any (v : Value) (L : List Pr) (w : World) (h : PrsIn w v L) (hok : ∀ p ∈ L, Okp p) (hn : L.length ≤ 4096) :
    Calls Try.prog 15 #[v] w fun e w' => e = .returned (.string (str (blk L))) ∧ Below w.heap.size w w' := by
  have HC := Lib.hid (fun A n cap hv i hi => h.cells (A := A) (n := n) (cap := cap) hv (i := i) hi)
  have HOK := Lib.hid hok
  obtain ⟨A, cap, hv, hs⟩ := h.ex
  subst hv
  have hcl := hs.le
  have hcm := hs.max
  unfold maxLen at hcm
  have HBR := Lib.hid (Below.refl w.heap.size w)
  clear h hs hok
  go_enter Try.func15, Try.ntmps15
  go_wp2_with fail
  go_loopg [3, 4, 5, 6] L.length (fun g bv tv nv iv wr => ∃ i : Nat, i + g = L.length ∧ iv = .int .i64 i ∧ nv = .int .i64 (rst (L.take i)).length ∧ tv = .string (tailS L i) ∧ RB w wr L i bv)
  case atStart => exact ⟨0, by omega, rfl, rfl, rfl, World.ownsRow_nil _ _ _ _, HBR.out⟩
  case round =>
    obtain ⟨i, hig, rfl, rfl, rfl, hRB⟩ := hrel
    have hdl := dat_len (fun p hp => HOK.out p (List.mem_of_mem_take hp) : ∀ p ∈ L.take i, Okp p)
    have hrl := rst_len (L.take i)
    have htl : (L.take i).length = i := by rw [List.length_take]; omega
    rw [htl] at hdl hrl
    have hrl2 : (rst (L.take i)).length ≤ 512 := by omega
    have hts : (tailS L i).size ≤ 2048 := by unfold tailS; rw [str_size, fm4]; omega
    obtain ⟨ao, cp, hbv⟩ := own_form hRB.own
    subst hbv
    have HRB := Lib.hid hRB
    clear hRB hrl
    by_cases hlt : i < L.length
    · have hpk := HOK.out L[i] (List.getElem_mem hlt)
      have htk := List.take_succ_eq_append_getElem hlt
      have hds := dat_snoc (L.take i) L[i]
      have hrs := rst_snoc (L.take i) L[i]
      rw [← htk, htl] at hds hrs
      have hsl := sameOf_le i (lastK (L.take i)) L[i].1
      have HDS := Lib.hid hds
      have HRS := Lib.hid hrs
      have HTI : Hid (tailS L i = str ((rst (L.take i)).flatMap (fixed 4))) := Lib.hid rfl
      have HTI2 : Hid (tailS L (i + 1) = str ((rst (L.take (i + 1))).flatMap (fixed 4))) := Lib.hid rfl
      have HSM : Hid (sameOf i (lastK (L.take i)) L[i].1 = if i % 8 = 0 then 0 else cmn (lastK (L.take i)) L[i].1) := Lib.hid rfl
      obtain ⟨h1, h2, h3⟩ := hpk
      have e1 := str_size L[i].1
      have e2 := str_size L[i].2
      have hks : (str L[i].1).size ≤ 80 := by omega
      have hvs : (str L[i].2).size ≤ 16000 := by omega
      obtain ⟨-, hsl2⟩ := hsl
      rw [← e1] at hsl2
      have gi : (i : Int) < (L.length : Int) := by omega
      have hD : (dat (L.take i)).length ≤ 65986560 := by omega
      clear htk hds hrs h1 h2 h3 e1 e2 hdl
      generalize hsm : sameOf i (lastK (L.take i)) L[i].1 = same at *
      clear hsm
      have HTL := Lib.hid htl
      clear htl
      go_upto_if 16 with (fail)
      go_cut [4, 5, 7] (fun tv nv sv wx => tv = .string (tailS L (i + 1)) ∧ nv = .int .i64 (rst (L.take (i + 1))).length ∧ sv = .int .i64 same ∧ Below wr.heap.size wr wx)
      case first =>
        by_cases h8 : i % 8 = 0
        · have d8 : (((i : Int) % 8) == 0) = true := by rw [beq_iff_eq]; omega
          rw [if_pos h8] at HRS HSM
          have HFX := Lib.hid (refFixed4_any (dat (L.take i)).length wr (by omega))
          have hts2 : tailS L i ++ str (fixed 4 (dat (L.take i)).length) = tailS L (i + 1) := by
            rw [HTI.out, HTI2.out, HRS.out, str_append, List.flatMap_append]; simp
          have hrl3 : (rst (L.take (i + 1))).length = (rst (L.take i)).length + 1 := by rw [HRS.out]; simp
          have HTS := Lib.hid hts2
          have HRL := Lib.hid hrl3
          have hfs : (str (fixed 4 (dat (L.take i)).length)).size ≤ 4 := by rw [str_size, fixed_length]; omega
          clear hts2 hrl3 h8
          generalize (dat (L.take i)).length = D at *
          generalize str (fixed 4 D) = fx at *
          generalize tailS L i = tl at *
          generalize (rst (L.take i)).length = R at *
          have hw1 : IntKind.u64.wrap (D : Int) = (D : Int) := by rw [IntKind.wrap_u64]; omega
          have hw2 : (D : Int) % 18446744073709551616 = (D : Int) := by omega
          have hcat : ¬ 9223372036854775807 < tl.size + fx.size := by omega
          go_wp2_with fail
          (with_reducible refine HFX.out.mono ?_)
          rintro e w2 ⟨rfl, hb2⟩
          have HB2 := Lib.hid hb2
          clear hb2
          go_wp2_with fail
          go_meet
          case rel => exact ⟨by rw [← HTS.out], by rw [HRL.out]; go_num, by rw [HSM.out]; rfl, HB2.out⟩
        · have d8 : (((i : Int) % 8) == 0) = false := by rw [beq_eq_false_iff_ne]; omega
          rw [if_neg h8] at HRS HSM
          rw [List.append_nil] at HRS
          have i0 : 0 < i := by omega
          have hlk := lastK_take L i i0 (by omega)
          rw [hlk] at HSM
          obtain ⟨bk, off, rfl, hc⟩ := HC.out _ _ _ rfl i hlt
          have hcl1 := fun W hW => (hc W hW i hlt).1
          have hcl2 := fun W hW => (hc W hW (i - 1) (by omega)).1
          have hip : ((i : Int) - 1).toNat = i - 1 := by omega
          have s3 : IntKind.i64.wrap ((i : Int) - 1) = (i : Int) - 1 := IntWalk.i64_in _ (by omega)
          have s5 : (0 : Int) ≤ (i : Int) - 1 := by omega
          have s6 : (i : Int) - 1 < (L.length : Int) := by omega
          have hk2 : (str L[i - 1].1).size ≤ 80 := by rw [str_size]; exact (HOK.out L[i - 1] (List.getElem_mem _)).2.1
          have hsz : (L[i].1 = bl (str L[i].1)) ∧ (L[i - 1].1 = bl (str L[i - 1].1)) := ⟨(bl_str _).symm, (bl_str _).symm⟩
          rw [hsz.1, hsz.2, cmn_comm] at HSM
          have HC1 := Lib.hid hcl1
          have HC2 := Lib.hid hcl2
          clear hc hcl1 hcl2 hlk hsz h8
          generalize str L[i].1 = ka at *
          generalize str L[i - 1].1 = kb at *
          go_wp2_with fail
          go_loopg [7] ka.size (fun g sv wx => ∃ j : Nat, j + g = ka.size ∧ j ≤ kb.size ∧ sv = .int .i64 j ∧ (∀ q, q < j → (bl ka)[q]? = (bl kb)[q]?) ∧ Below wr.heap.size wr wx)
          case atStart => exact ⟨0, by omega, by omega, rfl, fun q hq => by omega, Below.refl _ _⟩
          case round =>
            obtain ⟨j, hjg, hjb, rfl, hall, hbx⟩ := hrel
            have HALL := Lib.hid hall
            have HBX := Lib.hid hbx
            have hbw : Below w.heap.size w wr := HRB.out.bel.trans (hbx.mono HRB.out.bel.size)
            have c1 := HC1.out wr hbw
            have c2 := HC2.out wr hbw
            have HFIN := Lib.hid (fun (h : j = ka.size ∨ j = kb.size ∨ (bl ka)[j]? ≠ (bl kb)[j]?) => show same = j from by
              rw [HSM.out]
              refine cmn_is _ _ j (by rw [bl_size]; omega) (by rw [bl_size]; omega) HALL.out ?_
              rw [bl_size, bl_size]; exact h)
            clear hall hbx hbw
            by_cases h1 : j < ka.size
            · have d1 : decide ((j : Int) < (ka.size : Int)) = true := by rw [decide_eq_true_eq]; omega
              have g1 : (j : Int) < (ka.size : Int) := by omega
              by_cases h2 : j < kb.size
              · have d2 : decide ((j : Int) < (kb.size : Int)) = true := by rw [decide_eq_true_eq]; omega
                have g2 : (j : Int) < (kb.size : Int) := by omega
                by_cases h3 : ka[j] = kb[j]
                · have q : ((ka[j].toNat : Int) == (kb[j].toNat : Int)) = true := by rw [h3]; simp
                  have HX := Lib.hid (show (bl ka)[j]? = (bl kb)[j]? by rw [bl_at ka j h1, bl_at kb j h2, h3])
                  clear h3
                  go_wp2_with fail
                  go_quiet (fail)
                  go_wp2_with fail
                  go_roundg (ka.size - (j + 1))
                  case measure => omega
                  case rel => exact ⟨j + 1, by omega, by omega, by go_num, fun q hq => by
                    rcases Nat.lt_or_eq_of_le (Nat.le_of_lt_succ hq) with h | h
                    · exact HALL.out q h
                    · subst h; exact HX.out, HBX.out.drewN _⟩
                · have q : ((ka[j].toNat : Int) == (kb[j].toNat : Int)) = false := by
                    rw [beq_eq_false_iff_ne]; intro e
                    exact h3 (UInt8.toNat_inj.1 (by omega))
                  obtain rfl := HFIN.out (.inr (.inr (by rw [bl_at ka j h1, bl_at kb j h2]; intro e; injection e with e; exact h3 e)))
                  clear h3
                  go_wp2_with fail
                  go_quiet (fail)
                  go_wp2_with fail
                  go_meet
                  case rel => exact ⟨by rw [HTI2.out, HRS.out, ← HTI.out], by rw [HRS.out], rfl, HBX.out.drewN _⟩
              · have d2 : decide ((j : Int) < (kb.size : Int)) = false := by rw [decide_eq_false_iff_not]; omega
                obtain rfl := HFIN.out (.inr (.inl (by omega)))
                go_wp2_with fail
                go_quiet (fail)
                go_wp2_with fail
                go_meet
                case rel => exact ⟨by rw [HTI2.out, HRS.out, ← HTI.out], by rw [HRS.out], rfl, HBX.out.drewN _⟩
            · have d1 : decide ((j : Int) < (ka.size : Int)) = false := by rw [decide_eq_false_iff_not]; omega
              obtain rfl := HFIN.out (.inl (by omega))
              go_wp2_with fail
              go_quiet (fail)
              go_wp2_with fail
              go_meet
              case rel => exact ⟨by rw [HTI2.out, HRS.out, ← HTI.out], by rw [HRS.out], rfl, HBX.out.drewN _⟩
      case rest =>
        obtain ⟨rfl, rfl, rfl, hb2⟩ := hcut
        obtain ⟨bk, off, rfl, hc⟩ := HC.out _ _ _ rfl i hlt
        have hcw := fun W hW => hc W hW i hlt
        have HCW := Lib.hid hcw
        have HO0 := Lib.hid (owns_of_block HRB.out.own (fun k hk => hb2.block k (HRB.out.own.lt k hk).2))
        have hb0 := HRB.out.bel.trans (hb2.mono HRB.out.bel.size)
        have HB0 := Lib.hid hb0
        obtain ⟨kl, hkl⟩ : ∃ kl : Nat, kl = (str L[i].1).size - same := ⟨_, rfl⟩
        have hgl1 := grp_len same
        have hgl2 := grp_len kl
        have hgl3 := grp_len (str L[i].2).size
        have HE : Hid (dat (L.take (i + 1)) = dat (L.take i) ++ bl (str (grp same)) ++ bl (str (grp kl)) ++ bl (str (grp (str L[i].2).size)) ++ bl ((str L[i].1).extract same (str L[i].1).size) ++ bl (str L[i].2)) := Lib.hid (by
          rw [HDS.out, hkl]
          unfold ent
          rw [ext_drop]
          simp only [bl_str, str_size, List.append_assoc])
        have hks2 : kl ≤ 80 := by omega
        have hwk : IntKind.i64.wrap (((str L[i].1).size : Int) - (same : Int)) = (kl : Int) := by rw [IntWalk.i64_in _ (by omega)]; omega
        have hwk2 : ((str L[i].1).size : Int) - (same : Int) = (kl : Int) := by omega
        have hex : ((str L[i].1).extract same (str L[i].1).size).size ≤ 80 := by rw [ByteArray.size_extract]; omega
        have hxs : ((str L[i].1).extract same (str L[i].1).size).size = (str L[i].1).size - same := by rw [ByteArray.size_extract]; omega
        have hsg2 : (same : Int) ≤ ((str L[i].1).size : Int) := by omega
        have HG1 := Lib.hid (fun W => refGroups_any same W (by omega))
        have HG2 := Lib.hid (fun W => refGroups_any kl W (by omega))
        have HG3 := Lib.hid (fun W => refGroups_any (str L[i].2).size W (by omega))
        obtain ⟨c0, c1⟩ := hcw wc hb0
        clear hcw hc hb2 hb0 hkl HSM HTI HTI2
        have hgs1 := str_size (grp same)
        have hgs2 := str_size (grp kl)
        have hgs3 := str_size (grp (str L[i].2).size)
        rw [← hgs1] at hgl1
        rw [← hgs2] at hgl2
        rw [← hgs3] at hgl3
        clear hgs1 hgs2 hgs3
        generalize str L[i].1 = sk at *
        generalize str L[i].2 = sv at *
        generalize str (grp same) = t1 at *
        generalize str (grp kl) = t2 at *
        generalize str (grp sv.size) = t3 at *
        generalize dat (L.take i) = D at *
        have hw1 : IntKind.u64.wrap (same : Int) = (same : Int) := by rw [IntKind.wrap_u64]; omega
        have hw2 : IntKind.u64.wrap (kl : Int) = (kl : Int) := by rw [IntKind.wrap_u64]; omega
        have hw3 : IntKind.u64.wrap (sv.size : Int) = (sv.size : Int) := by rw [IntKind.wrap_u64]; omega
        go_wp2_with fail
        (with_reducible refine (HG1.out _).mono ?_)
        rintro e w5 ⟨rfl, hb5⟩
        have HO0 := Lib.hid (owns_of_block HO0.out (fun k hk => hb5.block k (HO0.out.lt k hk).2))
        have hbx := HB0.out.trans (hb5.mono HB0.out.size)
        have HB0 := Lib.hid hbx
        clear c0 c1
        obtain ⟨c0, c1⟩ := HCW.out w5 hbx
        clear hb5 hbx
        go_wp2_with (at_builtin; refine wpList_append_u8 rfl (.tmp 64) (.tmp 67) rfl w.heap.size _ _ _ rfl HO0.out t1 rfl (by omega) HB0.out.size ?_; intro v1 w1 hown hgrow; have hb := HB0.out.grown hgrow HB0.out.size (fun j hj => (HO0.out.lt j hj).1); obtain ⟨c0', c1'⟩ := HCW.out w1 hb; have HO1 := Lib.hid hown; have HB1 := Lib.hid hb; obtain ⟨ao1, cp1, hv1⟩ := own_form hown; subst hv1; clear hown hgrow hb)
        (with_reducible refine (HG2.out _).mono ?_)
        rintro e w6 ⟨rfl, hb6⟩
        clear c0' c1'
        have HO1 := Lib.hid (owns_of_block HO1.out (fun k hk => hb6.block k (HO1.out.lt k hk).2))
        have hbx := HB1.out.trans (hb6.mono HB1.out.size)
        have HB1 := Lib.hid hbx
        clear c0 c1
        obtain ⟨c0, c1⟩ := HCW.out w6 hbx
        clear hb6 hbx
        go_wp2_with (at_builtin; refine wpList_append_u8 rfl (.tmp 69) (.tmp 79) rfl w.heap.size _ _ _ rfl HO1.out t2 rfl (by omega) HB1.out.size ?_; intro v2 w2 hown hgrow; have hb := HB1.out.grown hgrow HB1.out.size (fun j hj => (HO1.out.lt j hj).1); obtain ⟨c0', c1'⟩ := HCW.out w2 hb; have HO2 := Lib.hid hown; have HB2 := Lib.hid hb; obtain ⟨ao2, cp2, hv2⟩ := own_form hown; subst hv2; clear hown hgrow hb)
        (with_reducible refine (HG3.out _).mono ?_)
        rintro e w7 ⟨rfl, hb7⟩
        clear c0' c1'
        have HO2 := Lib.hid (owns_of_block HO2.out (fun k hk => hb7.block k (HO2.out.lt k hk).2))
        have hbx := HB2.out.trans (hb7.mono HB2.out.size)
        have HB2 := Lib.hid hbx
        clear c0 c1
        obtain ⟨c0, c1⟩ := HCW.out w7 hbx
        clear hb7 hbx
        go_wp2_with (first | (at_builtin; refine wpList_append_u8 rfl (.tmp 81) (.tmp 89) rfl w.heap.size _ _ _ rfl HO2.out t3 rfl (by omega) HB2.out.size ?_; intro v3 w3 hown hgrow; have hb := HB2.out.grown hgrow HB2.out.size (fun j hj => (HO2.out.lt j hj).1); obtain ⟨c0', c1'⟩ := HCW.out w3 hb; have HO3 := Lib.hid hown; have HB3 := Lib.hid hb; obtain ⟨ao3, cp3, hv3⟩ := own_form hown; subst hv3; clear hown hgrow hb) | (at_builtin; refine wpList_append_u8 rfl (.tmp 91) (.tmp 98) rfl w.heap.size _ _ _ rfl HO3.out (sk.extract same sk.size) rfl (by omega) HB3.out.size ?_; intro v4 w4 hown hgrow; rw [hxs] at hown; have hb := HB3.out.grown hgrow HB3.out.size (fun j hj => (HO3.out.lt j hj).1); obtain ⟨c0', c1'⟩ := HCW.out w4 hb; have HO4 := Lib.hid hown; have HB4 := Lib.hid hb; obtain ⟨ao4, cp4, hv4⟩ := own_form hown; subst hv4; clear hown hgrow hb) | (at_builtin; refine wpList_append_u8 rfl (.tmp 100) (.tmp 105) rfl w.heap.size _ _ _ rfl HO4.out sv rfl (by omega) HB4.out.size ?_; intro v5 w5 hown hgrow; have hb := HB4.out.grown hgrow HB4.out.size (fun j hj => (HO4.out.lt j hj).1); obtain ⟨c0', c1'⟩ := HCW.out w5 hb; have HO5 := Lib.hid hown; have HB5 := Lib.hid hb; obtain ⟨ao5, cp5, hv5⟩ := own_form hown; subst hv5; clear hown hgrow hb))
        go_roundg (L.length - (i + 1))
        case measure => omega
        case rel => exact ⟨i + 1, by omega, by go_num, rfl, rfl, own_len (by rw [HE.out]; exact HO5.out), HB5.out⟩
    · obtain rfl : i = L.length := by omega
      rw [List.take_length] at hrl2
      have ho := HRB.out.own
      have HTI : Hid (tailS L L.length = str ((rst (L.take L.length)).flatMap (fixed 4))) := Lib.hid rfl
      rw [List.take_length] at ho HTI
      rw [List.take_length]
      have HO := Lib.hid ho
      have HB := Lib.hid HRB.out.bel
      have HFX := Lib.hid (fun W => refFixed4_any (rst L).length W (by omega))
      have hcv := fun W (hW : Below wr.heap.size wr W) => conv_row (owns_of_block HO.out (fun k hk => hW.block k (HO.out.lt k hk).2))
      have HCV := Lib.hid hcv
      have hc0 := hcv wr (Below.refl _ _)
      have hcd : (convert 26 9 (.slice ao (dat L).length cp)).run Try.prog wr.drew = .ok (.string (str (dat L))) wr.drew := hcv wr.drew (Below.refl _ _).drew
      have e1 := str_size (dat L)
      have e2 : (str (fixed 4 (rst L).length)).size ≤ 4 := by rw [str_size, fixed_length]; omega
      have HE : Hid (str (dat L) ++ tailS L L.length ++ str (fixed 4 (rst L).length) = str (blk L)) := Lib.hid (by
        rw [HTI.out, str_append, str_append]; rfl)
      have hD : (dat L).length ≤ 65986560 := by rw [List.take_length] at hdl; omega
      clear hdl ho hcv htl
      generalize tailS L L.length = tl at *
      generalize (dat L).length = D at *
      generalize str (dat L) = sd at *
      generalize (rst L).length = R at *
      generalize str (fixed 4 R) = fx at *
      have hw1 : IntKind.u64.wrap (R : Int) = (R : Int) := by rw [IntKind.wrap_u64]; omega
      have hcat1 : ¬ 9223372036854775807 < sd.size + tl.size := by omega
      have hcat2 : ¬ 9223372036854775807 < sd.size + tl.size + fx.size := by omega
      have hcat3 : ¬ 9223372036854775807 < (sd ++ tl).size + fx.size := by rw [ByteArray.size_append]; omega
      clear e1
      go_wp2_with fail
      go_region_with (go_at_call 33; refine (HFX.out _).mono ?_; rintro e w3 ⟨rfl, hb3⟩; have hcx := HCV.out w3 (Below.trans (Below.refl _ _).drew hb3))
      all_goals
        go_wp2_with fail
        go_ret
        exact ⟨by rw [← HE.out]; rfl, HB.out.trans ((Below.trans (Below.refl _ _).drew hb3).mono HB.out.size)⟩
end Go.Proofs.Ytcoicdaobgneeaa
