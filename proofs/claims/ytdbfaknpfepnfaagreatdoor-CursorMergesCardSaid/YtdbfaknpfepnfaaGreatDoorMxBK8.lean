/-
  Texts of the claim, joined: RefBCW, AllW, All2W, RefOpenW, BuildsW.
-/
import Derived.Test.YtdbfaknpfepnfaaGreatDoorMxBK7
import Derived.Deep.CutBlock
import Derived.Deep.DeepCutAuto
import Derived.Test.YtdbfaknpfepnfaaGreatDoorMxBK4
import Derived.Test.YtdbfaknpfepnfaaGreatDoorMxBK1
import Derived.BigQuiet
import Derived.Deep.RegionWith
import Derived.Deep.RegionLaw
import Derived.Deep.RegionHeld3
set_option maxRecDepth 100000
set_option maxHeartbeats 40000000
namespace Go.Proofs.YtdbfaknpfepnfaaGreatDoor
open Go.RowKit CodecP

theorem wpList_append_u8 {w : World} {ops : Array Oper} {rest : List Oper} {o : Oper} {a : Act} {Q : Exit → Act → World → Prop} (hgd : o.guard = none) (sl x : Operand)
  (ho : o.op = .call { callee := .builtin .append, args := #[sl, x], argTypes := #[94, 9] })
  (base : Nat) (v : Value) (n : Nat) (l : List UInt8) (hs : a.eval sl = v) (hown : w.ownsRow base 5 1 v n (u8s l)) (s : ByteArray) (hx : a.eval x = .string s)
  (hb : n + s.size ≤ 1099511627776) (hbase : base ≤ w.heap.size)
  (h : ∀ v' w', w'.ownsRow base 5 1 v' (n + s.size) (u8s (l ++ bl s)) → w.grownBy w' v.ownBlock → wpList Tryz.prog ops Q rest (a.put o.dst v') w') : wpList Tryz.prog ops Q (o :: rest) a w := by
 obtain ⟨i0, hi, hz0, hz1, hz2⟩ := info_parts info_u8b
 refine Lib.wpList_append_own_string w hgd sl x 94 9 ho base 5 i0 Tryz.underlying94 Tryz.underlying9 hi hz0 hz1 hz2 v n (u8s l) hs hown s hx (by unfold maxLen; omega) (by omega) hbase (fun v' w' h1 h2 _ => h v' w' ?_ h2)
 rw [u8s_append]
 exact h1
theorem refFixed4_any (n : Nat) (w : World) (hn : n < 18446744073709551616) :
  Calls Tryz.prog 63 #[.int .u64 n, .int .i64 4] w fun e w' => e = .returned (.string (str (fixed 4 n))) ∧ Below w.heap.size w w' := refFixed_any n 4 w (by decide) hn
theorem own_len {w : World} {B n : Nat} {v : Value} {l : List UInt8} (h : w.ownsRow B 5 1 v n (u8s l)) : w.ownsRow B 5 1 v l.length (u8s l) := by
 have := h.1
 rw [u8s_length, Nat.mul_one] at this
 rw [this]; exact h
structure RB (w wr : World) (L : List Pr) (i : Nat) (bv : Value) : Prop where
 own : wr.ownsRow w.heap.size 5 1 bv (dat (L.take i)).length (u8s (dat (L.take i)))
 bel : Below w.heap.size w wr
def tailS (L : List Pr) (i : Nat) : ByteArray := str ((rst (L.take i)).flatMap (fixed 4))
theorem fm4 (l : List Nat) : (l.flatMap (fixed 4)).length = 4 * l.length := by
 induction l with
 | nil => rfl
 | cons a l ih => rw [List.flatMap_cons, List.length_append, ih, fixed_length, List.length_cons]; omega
theorem lastK_take (L : List Pr) (i : Nat) (h0 : 0 < i) (h : i ≤ L.length) : lastK (L.take i) = (L[i - 1]'(by omega)).1 := by
 obtain ⟨j, rfl⟩ : ∃ j, i = j + 1 := ⟨i - 1, by omega⟩
 rw [List.take_succ_eq_append_getElem (by omega), lastK_snoc]; rfl
theorem refBytes_any (v : Value) (L : List Pr) (w : World) (h : PrsIn w v L) (hok : ∀ p ∈ L, Okp p) (hn : L.length ≤ 4096) :
  Calls Tryz.prog 33 #[v] w fun e w' => e = .returned (.string (str (blk L))) ∧ Below w.heap.size w w' := by
 have HC := Lib.hid (fun A n cap hv i hi => h.cells (A := A) (n := n) (cap := cap) hv (i := i) hi)
 have HOK := Lib.hid hok
 obtain ⟨A, cap, hv, hs⟩ := h.ex
 subst hv
 have hcl := hs.le
 have hcm := hs.max
 unfold maxLen at hcm
 have HBR := Lib.hid (Below.refl w.heap.size w)
 clear h hs hok
 go_enter Tryz.func33, Tryz.ntmps33
 go_wp2_with fail
 go_loopg [3, 4, 5, 6] L.length (fun g bv tv nv iv wr => ∃ i : Nat, i + g = L.length ∧ iv = .int .i64 i ∧ nv = .int .i64 (rst (L.take i)).length ∧ tv = .string (tailS L i) ∧ RB w wr L i bv)
 case atStart => exact ⟨0, by omega, rfl, rfl, rfl, World.ownsRow_nil _ _ _ _, HBR.out⟩
 case round =>
  obtain ⟨i, hig, rfl, rfl, rfl, hRB⟩ := hrel
  have hdl := dat_len (fun p hp => HOK.out p (List.mem_of_mem_take hp) : ∀ p ∈ L.take i, Okp p)
  have hrl := rst_len (L.take i)
  have htl : (L.take i).length = i := by rw [List.length_take]; omega
  rw [htl] at hdl hrl
  have hrl2 : (rst (L.take i)).length ≤ 512 := by omega
  have hts : (tailS L i).size ≤ 2048 := by unfold tailS; rw [str_size, fm4]; omega
  obtain ⟨ao, cp, hbv⟩ := own_form hRB.own
  subst hbv
  have HRB := Lib.hid hRB
  clear hRB hrl
  by_cases hlt : i < L.length
  ·have hpk := HOK.out L[i] (List.getElem_mem hlt)
   have htk := List.take_succ_eq_append_getElem hlt
   have hds := dat_snoc (L.take i) L[i]
   have hrs := rst_snoc (L.take i) L[i]
   rw [← htk, htl] at hds hrs
   have hsl := sameOf_le i (lastK (L.take i)) L[i].1
   have HDS := Lib.hid hds
   have HRS := Lib.hid hrs
   have HTI : Hid (tailS L i = str ((rst (L.take i)).flatMap (fixed 4))) := Lib.hid rfl
   have HTI2 : Hid (tailS L (i + 1) = str ((rst (L.take (i + 1))).flatMap (fixed 4))) := Lib.hid rfl
   have HSM : Hid (sameOf i (lastK (L.take i)) L[i].1 = if i % 8 = 0 then 0 else cmn (lastK (L.take i)) L[i].1) := Lib.hid rfl
   obtain ⟨h1, h2, h3⟩ := hpk
   have e1 := str_size L[i].1
   have e2 := str_size L[i].2
   have hks : (str L[i].1).size ≤ 80 := by omega
   have hvs : (str L[i].2).size ≤ 16000 := by omega
   obtain ⟨-, hsl2⟩ := hsl
   rw [← e1] at hsl2
   have gi : (i : Int) < (L.length : Int) := by omega
   have hD : (dat (L.take i)).length ≤ 65986560 := by omega
   clear htk hds hrs h1 h2 h3 e1 e2 hdl
   generalize hsm : sameOf i (lastK (L.take i)) L[i].1 = same at *
   clear hsm
   have HTL := Lib.hid htl
   clear htl
   go_upto_if 16 with (fail)
   go_cut [4, 5, 7] (fun tv nv sv wx => tv = .string (tailS L (i + 1)) ∧ nv = .int .i64 (rst (L.take (i + 1))).length ∧ sv = .int .i64 same ∧ Below wr.heap.size wr wx)
   case first =>
    by_cases h8 : i % 8 = 0
    ·have d8 : (((i : Int) % 8) == 0) = true := by rw [beq_iff_eq]; omega
     rw [if_pos h8] at HRS HSM
     have HFX := Lib.hid (refFixed4_any (dat (L.take i)).length wr (by omega))
     have hts2 : tailS L i ++ str (fixed 4 (dat (L.take i)).length) = tailS L (i + 1) := by
      rw [HTI.out, HTI2.out, HRS.out, str_append, List.flatMap_append]; simp
     have hrl3 : (rst (L.take (i + 1))).length = (rst (L.take i)).length + 1 := by rw [HRS.out]; simp
     have HTS := Lib.hid hts2
     have HRL := Lib.hid hrl3
     have hfs : (str (fixed 4 (dat (L.take i)).length)).size ≤ 4 := by rw [str_size, fixed_length]; omega
     clear hts2 hrl3 h8
     generalize (dat (L.take i)).length = D at *
     generalize str (fixed 4 D) = fx at *
     generalize tailS L i = tl at *
     generalize (rst (L.take i)).length = R at *
     have hw1 : IntKind.u64.wrap (D : Int) = (D : Int) := by rw [IntKind.wrap_u64]; omega
     have hw2 : (D : Int) % 18446744073709551616 = (D : Int) := by omega
     have hcat : ¬ 9223372036854775807 < tl.size + fx.size := by omega
     go_wp2_with fail
     (with_reducible refine HFX.out.mono ?_)
     rintro e w2 ⟨rfl, hb2⟩
     have HB2 := Lib.hid hb2
     clear hb2
     go_wp2_with fail
     go_meet
     case rel => exact ⟨by rw [← HTS.out], by rw [HRL.out]; go_num, by rw [HSM.out]; rfl, HB2.out⟩
    ·have d8 : (((i : Int) % 8) == 0) = false := by rw [beq_eq_false_iff_ne]; omega
     rw [if_neg h8] at HRS HSM
     rw [List.append_nil] at HRS
     have i0 : 0 < i := by omega
     have hlk := lastK_take L i i0 (by omega)
     rw [hlk] at HSM
     obtain ⟨bk, off, rfl, hc⟩ := HC.out _ _ _ rfl i hlt
     have hcl1 := fun W hW => (hc W hW i hlt).1
     have hcl2 := fun W hW => (hc W hW (i - 1) (by omega)).1
     have hip : ((i : Int) - 1).toNat = i - 1 := by omega
     have s3 : IntKind.i64.wrap ((i : Int) - 1) = (i : Int) - 1 := IntWalk.i64_in _ (by omega)
     have s5 : (0 : Int) ≤ (i : Int) - 1 := by omega
     have s6 : (i : Int) - 1 < (L.length : Int) := by omega
     have hk2 : (str L[i - 1].1).size ≤ 80 := by rw [str_size]; exact (HOK.out L[i - 1] (List.getElem_mem _)).2.1
     have hsz : (L[i].1 = bl (str L[i].1)) ∧ (L[i - 1].1 = bl (str L[i - 1].1)) := ⟨(bl_str _).symm, (bl_str _).symm⟩
     rw [hsz.1, hsz.2, cmn_comm] at HSM
     have HC1 := Lib.hid hcl1
     have HC2 := Lib.hid hcl2
     clear hc hcl1 hcl2 hlk hsz h8
     generalize str L[i].1 = ka at *
     generalize str L[i - 1].1 = kb at *
     go_wp2_with fail
     go_loopg [7] ka.size (fun g sv wx => ∃ j : Nat, j + g = ka.size ∧ j ≤ kb.size ∧ sv = .int .i64 j ∧ (∀ q, q < j → (bl ka)[q]? = (bl kb)[q]?) ∧ Below wr.heap.size wr wx)
     case atStart => exact ⟨0, by omega, by omega, rfl, fun q hq => by omega, Below.refl _ _⟩
     case round =>
      obtain ⟨j, hjg, hjb, rfl, hall, hbx⟩ := hrel
      have HALL := Lib.hid hall
      have HBX := Lib.hid hbx
      have hbw : Below w.heap.size w wr := HRB.out.bel.trans (hbx.mono HRB.out.bel.size)
      have c1 := HC1.out wr hbw
      have c2 := HC2.out wr hbw
      have HFIN := Lib.hid (fun (h : j = ka.size ∨ j = kb.size ∨ (bl ka)[j]? ≠ (bl kb)[j]?) => show same = j from by
       rw [HSM.out]
       refine cmn_is _ _ j (by rw [bl_size]; omega) (by rw [bl_size]; omega) HALL.out ?_
       rw [bl_size, bl_size]; exact h)
      clear hall hbx hbw
      by_cases h1 : j < ka.size
      ·have d1 : decide ((j : Int) < (ka.size : Int)) = true := by rw [decide_eq_true_eq]; omega
       have g1 : (j : Int) < (ka.size : Int) := by omega
       by_cases h2 : j < kb.size
       ·have d2 : decide ((j : Int) < (kb.size : Int)) = true := by rw [decide_eq_true_eq]; omega
        have g2 : (j : Int) < (kb.size : Int) := by omega
        by_cases h3 : ka[j] = kb[j]
        ·have q : ((ka[j].toNat : Int) == (kb[j].toNat : Int)) = true := by rw [h3]; simp
         have HX := Lib.hid (show (bl ka)[j]? = (bl kb)[j]? by rw [bl_at ka j h1, bl_at kb j h2, h3])
         clear h3
         go_wp2_with fail
         go_quiet (fail)
         go_wp2_with fail
         go_roundg (ka.size - (j + 1))
         case measure => omega
         case rel => exact ⟨j + 1, by omega, by omega, by go_num, fun q hq => by
          rcases Nat.lt_or_eq_of_le (Nat.le_of_lt_succ hq) with h | h
          ·exact HALL.out q h
          ·subst h; exact HX.out, HBX.out.drewN _⟩
        ·have q : ((ka[j].toNat : Int) == (kb[j].toNat : Int)) = false := by
          rw [beq_eq_false_iff_ne]; intro e
          exact h3 (UInt8.toNat_inj.1 (by omega))
         obtain rfl := HFIN.out (.inr (.inr (by rw [bl_at ka j h1, bl_at kb j h2]; intro e; injection e with e; exact h3 e)))
         clear h3
         go_wp2_with fail
         go_quiet (fail)
         go_wp2_with fail
         go_meet
         case rel => exact ⟨by rw [HTI2.out, HRS.out, ← HTI.out], by rw [HRS.out], rfl, HBX.out.drewN _⟩
       ·have d2 : decide ((j : Int) < (kb.size : Int)) = false := by rw [decide_eq_false_iff_not]; omega
        obtain rfl := HFIN.out (.inr (.inl (by omega)))
        go_wp2_with fail
        go_quiet (fail)
        go_wp2_with fail
        go_meet
        case rel => exact ⟨by rw [HTI2.out, HRS.out, ← HTI.out], by rw [HRS.out], rfl, HBX.out.drewN _⟩
      ·have d1 : decide ((j : Int) < (ka.size : Int)) = false := by rw [decide_eq_false_iff_not]; omega
       obtain rfl := HFIN.out (.inl (by omega))
       go_wp2_with fail
       go_quiet (fail)
       go_wp2_with fail
       go_meet
       case rel => exact ⟨by rw [HTI2.out, HRS.out, ← HTI.out], by rw [HRS.out], rfl, HBX.out.drewN _⟩
   case rest =>
    obtain ⟨rfl, rfl, rfl, hb2⟩ := hcut
    obtain ⟨bk, off, rfl, hc⟩ := HC.out _ _ _ rfl i hlt
    have hcw := fun W hW => hc W hW i hlt
    have HCW := Lib.hid hcw
    have HO0 := Lib.hid (owns_of_block HRB.out.own (fun k hk => hb2.block k (HRB.out.own.lt k hk).2))
    have hb0 := HRB.out.bel.trans (hb2.mono HRB.out.bel.size)
    have HB0 := Lib.hid hb0
    obtain ⟨kl, hkl⟩ : ∃ kl : Nat, kl = (str L[i].1).size - same := ⟨_, rfl⟩
    have hgl1 := grp_len same
    have hgl2 := grp_len kl
    have hgl3 := grp_len (str L[i].2).size
    have HE : Hid (dat (L.take (i + 1)) = dat (L.take i) ++ bl (str (grp same)) ++ bl (str (grp kl)) ++ bl (str (grp (str L[i].2).size)) ++ bl ((str L[i].1).extract same (str L[i].1).size) ++ bl (str L[i].2)) := Lib.hid (by
     rw [HDS.out, hkl]
     unfold ent
     rw [ext_drop]
     simp only [bl_str, str_size, List.append_assoc])
    have hks2 : kl ≤ 80 := by omega
    have hwk : IntKind.i64.wrap (((str L[i].1).size : Int) - (same : Int)) = (kl : Int) := by rw [IntWalk.i64_in _ (by omega)]; omega
    have hwk2 : ((str L[i].1).size : Int) - (same : Int) = (kl : Int) := by omega
    have hex : ((str L[i].1).extract same (str L[i].1).size).size ≤ 80 := by rw [ByteArray.size_extract]; omega
    have hxs : ((str L[i].1).extract same (str L[i].1).size).size = (str L[i].1).size - same := by rw [ByteArray.size_extract]; omega
    have hsg2 : (same : Int) ≤ ((str L[i].1).size : Int) := by omega
    have HG1 := Lib.hid (fun W => refGroups_any same W (by omega))
    have HG2 := Lib.hid (fun W => refGroups_any kl W (by omega))
    have HG3 := Lib.hid (fun W => refGroups_any (str L[i].2).size W (by omega))
    obtain ⟨c0, c1⟩ := hcw wc hb0
    clear hcw hc hb2 hb0 hkl HSM HTI HTI2
    have hgs1 := str_size (grp same)
    have hgs2 := str_size (grp kl)
    have hgs3 := str_size (grp (str L[i].2).size)
    rw [← hgs1] at hgl1
    rw [← hgs2] at hgl2
    rw [← hgs3] at hgl3
    clear hgs1 hgs2 hgs3
    generalize str L[i].1 = sk at *
    generalize str L[i].2 = sv at *
    generalize str (grp same) = t1 at *
    generalize str (grp kl) = t2 at *
    generalize str (grp sv.size) = t3 at *
    generalize dat (L.take i) = D at *
    have hw1 : IntKind.u64.wrap (same : Int) = (same : Int) := by rw [IntKind.wrap_u64]; omega
    have hw2 : IntKind.u64.wrap (kl : Int) = (kl : Int) := by rw [IntKind.wrap_u64]; omega
    have hw3 : IntKind.u64.wrap (sv.size : Int) = (sv.size : Int) := by rw [IntKind.wrap_u64]; omega
    go_wp2_with fail
    (with_reducible refine (HG1.out _).mono ?_)
    rintro e w5 ⟨rfl, hb5⟩
    have HO0 := Lib.hid (owns_of_block HO0.out (fun k hk => hb5.block k (HO0.out.lt k hk).2))
    have hbx := HB0.out.trans (hb5.mono HB0.out.size)
    have HB0 := Lib.hid hbx
    clear c0 c1
    obtain ⟨c0, c1⟩ := HCW.out w5 hbx
    clear hb5 hbx
    go_wp2_with (at_builtin; refine wpList_append_u8 rfl (.tmp 64) (.tmp 67) rfl w.heap.size _ _ _ rfl HO0.out t1 rfl (by omega) HB0.out.size ?_; intro v1 w1 hown hgrow; have hb := HB0.out.grown hgrow HB0.out.size (fun j hj => (HO0.out.lt j hj).1); obtain ⟨c0', c1'⟩ := HCW.out w1 hb; have HO1 := Lib.hid hown; have HB1 := Lib.hid hb; obtain ⟨ao1, cp1, hv1⟩ := own_form hown; subst hv1; clear hown hgrow hb)
    (with_reducible refine (HG2.out _).mono ?_)
    rintro e w6 ⟨rfl, hb6⟩
    clear c0' c1'
    have HO1 := Lib.hid (owns_of_block HO1.out (fun k hk => hb6.block k (HO1.out.lt k hk).2))
    have hbx := HB1.out.trans (hb6.mono HB1.out.size)
    have HB1 := Lib.hid hbx
    clear c0 c1
    obtain ⟨c0, c1⟩ := HCW.out w6 hbx
    clear hb6 hbx
    go_wp2_with (at_builtin; refine wpList_append_u8 rfl (.tmp 69) (.tmp 79) rfl w.heap.size _ _ _ rfl HO1.out t2 rfl (by omega) HB1.out.size ?_; intro v2 w2 hown hgrow; have hb := HB1.out.grown hgrow HB1.out.size (fun j hj => (HO1.out.lt j hj).1); obtain ⟨c0', c1'⟩ := HCW.out w2 hb; have HO2 := Lib.hid hown; have HB2 := Lib.hid hb; obtain ⟨ao2, cp2, hv2⟩ := own_form hown; subst hv2; clear hown hgrow hb)
    (with_reducible refine (HG3.out _).mono ?_)
    rintro e w7 ⟨rfl, hb7⟩
    clear c0' c1'
    have HO2 := Lib.hid (owns_of_block HO2.out (fun k hk => hb7.block k (HO2.out.lt k hk).2))
    have hbx := HB2.out.trans (hb7.mono HB2.out.size)
    have HB2 := Lib.hid hbx
    clear c0 c1
    obtain ⟨c0, c1⟩ := HCW.out w7 hbx
    clear hb7 hbx
    go_wp2_with (first | (at_builtin; refine wpList_append_u8 rfl (.tmp 81) (.tmp 89) rfl w.heap.size _ _ _ rfl HO2.out t3 rfl (by omega) HB2.out.size ?_; intro v3 w3 hown hgrow; have hb := HB2.out.grown hgrow HB2.out.size (fun j hj => (HO2.out.lt j hj).1); obtain ⟨c0', c1'⟩ := HCW.out w3 hb; have HO3 := Lib.hid hown; have HB3 := Lib.hid hb; obtain ⟨ao3, cp3, hv3⟩ := own_form hown; subst hv3; clear hown hgrow hb) | (at_builtin; refine wpList_append_u8 rfl (.tmp 91) (.tmp 98) rfl w.heap.size _ _ _ rfl HO3.out (sk.extract same sk.size) rfl (by omega) HB3.out.size ?_; intro v4 w4 hown hgrow; rw [hxs] at hown; have hb := HB3.out.grown hgrow HB3.out.size (fun j hj => (HO3.out.lt j hj).1); obtain ⟨c0', c1'⟩ := HCW.out w4 hb; have HO4 := Lib.hid hown; have HB4 := Lib.hid hb; obtain ⟨ao4, cp4, hv4⟩ := own_form hown; subst hv4; clear hown hgrow hb) | (at_builtin; refine wpList_append_u8 rfl (.tmp 100) (.tmp 105) rfl w.heap.size _ _ _ rfl HO4.out sv rfl (by omega) HB4.out.size ?_; intro v5 w5 hown hgrow; have hb := HB4.out.grown hgrow HB4.out.size (fun j hj => (HO4.out.lt j hj).1); obtain ⟨c0', c1'⟩ := HCW.out w5 hb; have HO5 := Lib.hid hown; have HB5 := Lib.hid hb; obtain ⟨ao5, cp5, hv5⟩ := own_form hown; subst hv5; clear hown hgrow hb))
    go_roundg (L.length - (i + 1))
    case measure => omega
    case rel => exact ⟨i + 1, by omega, by go_num, rfl, rfl, own_len (by rw [HE.out]; exact HO5.out), HB5.out⟩
  ·obtain rfl : i = L.length := by omega
   rw [List.take_length] at hrl2
   have ho := HRB.out.own
   have HTI : Hid (tailS L L.length = str ((rst (L.take L.length)).flatMap (fixed 4))) := Lib.hid rfl
   rw [List.take_length] at ho HTI
   rw [List.take_length]
   have HO := Lib.hid ho
   have HB := Lib.hid HRB.out.bel
   have HFX := Lib.hid (fun W => refFixed4_any (rst L).length W (by omega))
   have hcv := fun W (hW : Below wr.heap.size wr W) => conv_row (owns_of_block HO.out (fun k hk => hW.block k (HO.out.lt k hk).2))
   have HCV := Lib.hid hcv
   have hc0 := hcv wr (Below.refl _ _)
   have hcd : (convert 94 9 (.slice ao (dat L).length cp)).run Tryz.prog wr.drew = .ok (.string (str (dat L))) wr.drew := hcv wr.drew (Below.refl _ _).drew
   have e1 := str_size (dat L)
   have e2 : (str (fixed 4 (rst L).length)).size ≤ 4 := by rw [str_size, fixed_length]; omega
   have HE : Hid (str (dat L) ++ tailS L L.length ++ str (fixed 4 (rst L).length) = str (blk L)) := Lib.hid (by
    rw [HTI.out, str_append, str_append]; rfl)
   have hD : (dat L).length ≤ 65986560 := by rw [List.take_length] at hdl; omega
   clear hdl ho hcv htl
   generalize tailS L L.length = tl at *
   generalize (dat L).length = D at *
   generalize str (dat L) = sd at *
   generalize (rst L).length = R at *
   generalize str (fixed 4 R) = fx at *
   have hw1 : IntKind.u64.wrap (R : Int) = (R : Int) := by rw [IntKind.wrap_u64]; omega
   have hcat1 : ¬ 9223372036854775807 < sd.size + tl.size := by omega
   have hcat2 : ¬ 9223372036854775807 < sd.size + tl.size + fx.size := by omega
   have hcat3 : ¬ 9223372036854775807 < (sd ++ tl).size + fx.size := by rw [ByteArray.size_append]; omega
   clear e1
   go_wp2_with fail
   go_region_with (go_at_call 63; refine (HFX.out _).mono ?_; rintro e w3 ⟨rfl, hb3⟩; have hcx := HCV.out w3 (Below.trans (Below.refl _ _).drew hb3))
   all_goals
    go_wp2_with fail
    go_ret
    exact ⟨by rw [← HE.out]; rfl, HB.out.trans ((Below.trans (Below.refl _ _).drew hb3).mono HB.out.size)⟩
end Go.Proofs.YtdbfaknpfepnfaaGreatDoor


namespace Go.Proofs.YtdbfaknpfepnfaaGreatDoor
open Go.RowKit Go.Deep CrcP CodecP FrameP

def allR : Nat → List UInt8 → List (List UInt8) × Nat × Nat
 | 0, _ => ([], 0, 0)
 | f + 1, s => if s = [] then ([], 0, 0) else if (opn s).2.2 ≠ 0 then ([], 0, (opn s).2.2) else
  ((opn s).1 :: (allR f (s.drop (opn s).2.1)).1, (opn s).2.1 + (allR f (s.drop (opn s).2.1)).2.1, (allR f (s.drop (opn s).2.1)).2.2)
def allF (s : List UInt8) := allR s.length s
theorem opn_pos (s : List UInt8) (h : (opn s).2.2 = 0) : (opn s).1.length ≤ 131072 ∧ (opn s).2.1 = 12 + (opn s).1.length ∧ (opn s).2.1 ≤ s.length ∧ s.take (opn s).2.1 = frame (opn s).1 := by
 have := frame_opn s (opn s).1 (opn s).2.1 (by rw [← h])
 exact this
theorem allR_more (f : Nat) : ∀ (g : Nat) (s : List UInt8), s.length ≤ f → f ≤ g → allR g s = allR f s := by
 induction f with
 | zero =>
  intro g s h _
  have : s = [] := List.length_eq_zero_iff.1 (by omega)
  subst this
  cases g <;> simp [allR]
 | succ f ih =>
  intro g s h hg
  obtain ⟨g, rfl⟩ : ∃ k, g = k + 1 := ⟨g - 1, by omega⟩
  by_cases hs : s = []
  ·simp [allR, hs]
  ·by_cases hw : (opn s).2.2 ≠ 0
   ·simp [allR, hs, hw]
   ·have hp := opn_pos s (by omega)
    have := ih g (s.drop (opn s).2.1) (by simp; omega) (by omega)
    simp [allR, hs, hw, this]
theorem allF_step (s : List UInt8) (hs : s ≠ []) (hw : (opn s).2.2 = 0) : allF s = ((opn s).1 :: (allF (s.drop (opn s).2.1)).1, (opn s).2.1 + (allF (s.drop (opn s).2.1)).2.1, (allF (s.drop (opn s).2.1)).2.2) := by
 have hp := opn_pos s hw
 have hl : 0 < s.length := List.length_pos_iff.2 hs
 obtain ⟨k, hk⟩ : ∃ k, s.length = k + 1 := ⟨s.length - 1, by omega⟩
 unfold allF
 rw [hk]
 have := allR_more (s.drop (opn s).2.1).length k (s.drop (opn s).2.1) (Nat.le_refl _) (by simp; omega)
 simp only [allR, hs, hw, if_false, ne_eq, not_true_eq_false, this]
theorem allF_bad (s : List UInt8) (hs : s ≠ []) (hw : (opn s).2.2 ≠ 0) : allF s = ([], 0, (opn s).2.2) := by
 have hl : 0 < s.length := List.length_pos_iff.2 hs
 obtain ⟨k, hk⟩ : ∃ k, s.length = k + 1 := ⟨s.length - 1, by omega⟩
 unfold allF
 rw [hk]
 simp [allR, hs, hw]
theorem allF_nil : allF [] = ([], 0, 0) := rfl
def AllTo (s : List UInt8) (L : List (List UInt8)) (k : Nat) : Prop := k ≤ s.length ∧ L.length ≤ k ∧ (∀ x ∈ L, x.length ≤ 131072) ∧ allF s = (L ++ (allF (s.drop k)).1, k + (allF (s.drop k)).2.1, (allF (s.drop k)).2.2)
theorem AllTo.start (s : List UInt8) : AllTo s [] 0 := ⟨by omega, by simp, by simp, by simp⟩
theorem AllTo.step {s : List UInt8} {L : List (List UInt8)} {k : Nat} (h : AllTo s L k) (hk : k < s.length) (hw : (opn (s.drop k)).2.2 = 0) : AllTo s (L ++ [(opn (s.drop k)).1]) (k + (opn (s.drop k)).2.1) := by
 obtain ⟨h1, h2, h3, h4⟩ := h
 have hp := opn_pos _ hw
 have hne : s.drop k ≠ [] := by intro h; have := List.drop_eq_nil_iff.1 h; omega
 have hs := allF_step _ hne hw
 rw [List.length_drop] at hp
 refine ⟨by omega, by simp; omega, ?_, ?_⟩
 ·intro x hx
  rcases List.mem_append.1 hx with h | h
  ·exact h3 x h
  ·rw [List.mem_singleton.1 h]; exact hp.1
 ·rw [h4, hs, List.drop_drop]
  simp [Nat.add_assoc]
theorem AllTo.bad {s : List UInt8} {L : List (List UInt8)} {k : Nat} (h : AllTo s L k) (hk : k < s.length) (hw : (opn (s.drop k)).2.2 ≠ 0) : allF s = (L, k, (opn (s.drop k)).2.2) := by
 have hne : s.drop k ≠ [] := by intro h; have := List.drop_eq_nil_iff.1 h; omega
 rw [h.2.2.2, allF_bad _ hne hw]; simp
theorem AllTo.done {s : List UInt8} {L : List (List UInt8)} {k : Nat} (h : AllTo s L k) (hk : s.length ≤ k) : allF s = (L, k, 0) := by
 have : s.drop k = [] := List.drop_eq_nil_iff.2 hk
 rw [h.2.2.2, this, allF_nil]; simp

end Go.Proofs.YtdbfaknpfepnfaaGreatDoor


namespace Go.Proofs.YtdbfaknpfepnfaaGreatDoor
open Go.RowKit Go.Deep CrcP CodecP FrameP

theorem refValue_any (s : ByteArray) (w : World) (hs : s.size ≤ 8) :
  Calls Tryz.prog 15 #[.string s] w fun e w' => e = .returned (.int .u64 (value (bl s) : Nat)) ∧ w = w' := by
 go_enter Tryz.func15, Tryz.ntmps15
 go_wp2
 go_loop [3, 4] (fun x c => ∃ k : Nat, k ≤ s.size ∧ c = .int .i64 k ∧ x = .int .u64 (value ((bl s).take k) : Nat)) (fun _ c => s.size - (intOf c).toNat)
 case atStart => exact ⟨0, by omega, rfl, rfl⟩
 case round =>
  obtain ⟨k, hk, rfl, rfl⟩ := hrel
  by_cases hlt : k < s.size
  ·have hv := value_take (bl s) k hlt
   have hl := value_take_lt (bl s) k (by omega)
   rw [getD_bl s k hlt] at hv
   have hc := (s[k]).toNat_lt
   generalize value ((bl s).take k) = x at *
   have HV := Lib.hid hv
   clear hv
   go_wp2
   go_round
   case rel => exact ⟨k + 1, by omega, by go_num, by rw [HV.out]; go_num⟩
   case measure => simp [intOf]; omega
  ·go_wp2
   go_ret
   exact ⟨ret_u64 (by rw [List.take_of_length_le (by show s.size ≤ k; omega)]), rfl⟩

theorem frame_cut (s : List UInt8) (n : Nat) (h1 : 12 + n ≤ s.length) (hv : value (s.take 4) = n) (hl : laid (s.take 4) = (s.drop 4).take 4) :
  decide (frame ((s.drop 8).take n) = s.take (12 + n)) = decide (laid ((s.drop 8).take n) = (s.drop (8 + n)).take 4) := by
 have h4 : (s.take 4).length = 4 := by rw [List.length_take]; omega
 have hdl : ((s.drop 8).take n).length = n := by rw [List.length_take, List.length_drop]; omega
 have e1 : be4 ((s.drop 8).take n).length = s.take 4 := by
  rw [hdl, ← hv]
  have := fixed_value (s.take 4)
  rw [h4] at this
  exact this
 have e2 : s.take (12 + n) = s.take 4 ++ (s.drop 4).take 4 ++ (s.drop 8).take n ++ (s.drop (8 + n)).take 4 := by
  rw [show 12 + n = 4 + (4 + (n + 4)) by omega, List.take_add, List.take_add, List.take_add, List.drop_drop, List.drop_drop]
  simp [List.append_assoc]
 unfold frame
 rw [e1, e2, hl]
 rw [decide_eq_decide]
 constructor
 ·intro h; exact List.append_cancel_left h
 ·intro h; rw [h]

end Go.Proofs.YtdbfaknpfepnfaaGreatDoor


namespace Go.Proofs.YtdbfaknpfepnfaaGreatDoor
open Go.RowKit Go.Deep CrcP CodecP FrameP

theorem _root_.Go.RowKit.Below.undrew {B : Nat} {w w1 : World} (h : Below B w.drew w1) : Below B w w1 := ⟨h.os, h.tape, h.output, h.size, h.block⟩
theorem refCrcOpen_any (s : ByteArray) (w : World) (hs : s.size ≤ 1099511627776) :
  Calls Tryz.prog 165 #[.string s] w fun e w' => e = .returned (opnV (opn (bl s))) ∧ Below w.heap.size w w' := by
 have hbel0 := Below.refl w.heap.size w
 by_cases h8 : s.size < 8
 ·have ho : opn (bl s) = ([], 0, 1) := by unfold opn; rw [if_pos (by exact h8)]
  rw [ho]
  clear ho
  go_enter Tryz.func165, Tryz.ntmps165
  go_wp2
  go_ret3
  exact ⟨rfl, hbel0⟩
 ·have RV := fun W => refValue_any (s.extract 0 4) W (by simp; omega)
  have RL := fun W => refLaid_any (s.extract 0 4) W (small _ (by simp; omega))
  rw [bl_take] at RV RL
  have hvl : value ((bl s).take 4) < 4294967296 := value_lt4 _ (by rw [List.length_take]; omega)
  have hc1 := ne_str (str (laid ((bl s).take 4))) (s.extract 4 8)
  rw [bl_str, ext_bl] at hc1
  have hO1 : laid ((bl s).take 4) ≠ ((bl s).drop 4).take (8 - 4) → opn (bl s) = ([], 0, 2) := fun h => by
   unfold opn; rw [if_neg (show ¬ (bl s).length < 8 from h8), if_pos (.inl h)]
  have hO2 : 131072 < value ((bl s).take 4) → opn (bl s) = ([], 0, 2) := fun h => by
   unfold opn; rw [if_neg (show ¬ (bl s).length < 8 from h8), if_pos (.inr h)]
  have hO3 : laid ((bl s).take 4) = ((bl s).drop 4).take (8 - 4) → ¬ 131072 < value ((bl s).take 4) → s.size < 12 + value ((bl s).take 4) → opn (bl s) = ([], 0, 1) := fun h1 h2 h3 => by
   unfold opn; rw [if_neg (show ¬ (bl s).length < 8 from h8), if_neg (by rintro (h | h); exact h h1; exact h2 h), if_pos (show (bl s).length < _ from h3)]
  have hO4 : laid ((bl s).take 4) = ((bl s).drop 4).take (8 - 4) → ¬ 131072 < value ((bl s).take 4) → ¬ s.size < 12 + value ((bl s).take 4) → (opn (bl s) = if laid (((bl s).drop 8).take (value ((bl s).take 4))) ≠ ((bl s).drop (8 + value ((bl s).take 4))).take 4 then ([], 0, 2) else (((bl s).drop 8).take (value ((bl s).take 4)), 12 + value ((bl s).take 4), 0)) := fun h1 h2 h3 => by
   unfold opn; rw [if_neg (show ¬ (bl s).length < 8 from h8), if_neg (by rintro (h | h); exact h h1; exact h2 h), if_neg (show ¬ (bl s).length < _ from h3)]
  have hO5 := frame_cut (bl s) (value ((bl s).take 4))
  generalize hn : value ((bl s).take 4) = n at *
  have HNn := Lib.hid hn
  generalize laid ((bl s).take 4) = La at *
  generalize ((bl s).drop 4).take (8 - 4) = Qa at *
  generalize opn (bl s) = O at *
  have HRL := Lib.hid RL
  have HC1 := Lib.hid hc1
  have H1 := Lib.hid hO1
  have H2 := Lib.hid hO2
  have H3 := Lib.hid hO3
  have H4 := Lib.hid hO4
  have H5 := Lib.hid hO5
  clear RL hc1 hO1 hO2 hO3 hO4 hO5 hn
  go_enter Tryz.func165, Tryz.ntmps165
  go_wp2_with fail
  refine (RV _).mono ?_
  rintro e w1 ⟨rfl, rfl⟩
  clear RV
  by_cases hq : La = Qa
  ·have q1 : ((str La).toList == (s.extract 4 8).toList) = true := by rw [HC1.out]; simp [hq]
   have q2 : ((str La).toList != (s.extract 4 8).toList) = false := by rw [bne, q1]; rfl
   clear HC1 H1
   by_cases hn2 : 131072 < n
   ·have HO := Lib.hid (H2.out hn2)
    clear H2 H3 H4 H5 hq
    go_wp2_with fail
    go_region_with (go_at_call 114; refine (HRL.out _).mono ?_; rintro e w1 ⟨rfl, hb1⟩)
    go_wp2
    go_ret3
    exact ⟨by rw [HO.out]; rfl, hb1.undrew⟩
   ·by_cases hn3 : s.size < 12 + n
    ·have HO := Lib.hid (H3.out hq hn2 hn3)
     clear H2 H3 H4 H5 hq
     go_wp2_with fail
     go_region_with (go_at_call 114; refine (HRL.out _).mono ?_; rintro e w1 ⟨rfl, hb1⟩)
     go_wp2
     go_ret3
     exact ⟨by rw [HO.out]; rfl, hb1.undrew⟩
    ·have ho := H4.out hq hn2 hn3
     have h5 := H5.out (show 12 + n ≤ s.size by omega) trivial hq
     have e8 : bl (s.extract 8 (8 + n)) = ((bl s).drop 8).take n := by rw [ext_bl]; congr 1; omega
     have RF := fun W => refFrame_any (s.extract 8 (8 + n)) W (by simp; omega)
     rw [e8] at RF
     have hc2 := ne_str (str (frame (((bl s).drop 8).take n))) (s.extract 0 (12 + n))
     rw [bl_str, bl_take, h5] at hc2
     have hsd : s.extract 8 (8 + n) = str (((bl s).drop 8).take n) := by rw [← e8, str_bl]
     have HSD := Lib.hid hsd
     have hle : 12 + n ≤ s.size := by omega
     have HRF := Lib.hid RF
     have HC2 := Lib.hid hc2
     have HO := Lib.hid ho
     clear H2 H3 H4 H5 hsd h5 e8 RF hc2 ho hq
     generalize frame (((bl s).drop 8).take n) = Fb at *
     by_cases hlast : laid (((bl s).drop 8).take n) = ((bl s).drop (8 + n)).take 4
     ·have r1 : ((str Fb).toList == (s.extract 0 (12 + n)).toList) = true := by rw [HC2.out]; simp [hlast]
      have r2 : ((str Fb).toList != (s.extract 0 (12 + n)).toList) = false := by rw [bne, r1]; rfl
      have ho := HO.out
      rw [if_neg (by simp [hlast])] at ho
      have HO' := Lib.hid ho
      clear HO HC2 hlast ho
      have gA : IntKind.i64.wrap (8 + (n : Int)) = ((8 + n : Nat) : Int) := by rw [show (8 : Int) + (n : Int) = ((8 + n : Nat) : Int) by omega]; exact IntWalk.i64_in _ (by omega)
      have gB : IntKind.i64.wrap (12 + (n : Int)) = ((12 + n : Nat) : Int) := by rw [show (12 : Int) + (n : Int) = ((12 + n : Nat) : Int) by omega]; exact IntWalk.i64_in _ (by omega)
      have gC : ((8 + n : Nat) : Int) ≤ (s.size : Int) := by omega
      have gD : ((12 + n : Nat) : Int) ≤ (s.size : Int) := by omega
      have gE : (8 : Int) ≤ ((8 + n : Nat) : Int) := by omega
      have gF : (0 : Int) ≤ ((8 + n : Nat) : Int) := by omega
      have gG : (0 : Int) ≤ ((12 + n : Nat) : Int) := by omega
      go_wp2_with fail
      go_region_with (go_at_call 114; refine (HRL.out _).mono ?_; rintro e w1 ⟨rfl, hb1⟩)
      go_wp2_with fail
      go_region_with (go_at_call 71; refine (HRF.out _).mono ?_; rintro e w2 ⟨rfl, hb2⟩)
      all_goals
       go_wp2
       all_goals
        go_ret3
        refine ⟨?_, hb1.undrew.trans (Below.mono hb2.undrew hb1.undrew.size)⟩
        rw [HO'.out, HSD.out]; rfl
     ·have r1 : ((str Fb).toList == (s.extract 0 (12 + n)).toList) = false := by rw [HC2.out]; simp [hlast]
      have r2 : ((str Fb).toList != (s.extract 0 (12 + n)).toList) = true := by rw [bne, r1]; rfl
      have ho := HO.out
      rw [if_pos hlast] at ho
      have HO' := Lib.hid ho
      clear HO HC2 hlast ho
      have gA : IntKind.i64.wrap (8 + (n : Int)) = ((8 + n : Nat) : Int) := by rw [show (8 : Int) + (n : Int) = ((8 + n : Nat) : Int) by omega]; exact IntWalk.i64_in _ (by omega)
      have gB : IntKind.i64.wrap (12 + (n : Int)) = ((12 + n : Nat) : Int) := by rw [show (12 : Int) + (n : Int) = ((12 + n : Nat) : Int) by omega]; exact IntWalk.i64_in _ (by omega)
      have gC : ((8 + n : Nat) : Int) ≤ (s.size : Int) := by omega
      have gD : ((12 + n : Nat) : Int) ≤ (s.size : Int) := by omega
      have gE : (8 : Int) ≤ ((8 + n : Nat) : Int) := by omega
      have gF : (0 : Int) ≤ ((8 + n : Nat) : Int) := by omega
      have gG : (0 : Int) ≤ ((12 + n : Nat) : Int) := by omega
      go_wp2_with fail
      go_region_with (go_at_call 114; refine (HRL.out _).mono ?_; rintro e w1 ⟨rfl, hb1⟩)
      go_wp2_with fail
      go_region_with (go_at_call 71; refine (HRF.out _).mono ?_; rintro e w2 ⟨rfl, hb2⟩)
      all_goals
       go_wp2
       all_goals
        go_ret3
        refine ⟨?_, hb1.undrew.trans (Below.mono hb2.undrew hb1.undrew.size)⟩
        rw [HO'.out]; rfl
  ·have q1 : ((str La).toList == (s.extract 4 8).toList) = false := by rw [HC1.out]; simp [hq]
   have q2 : ((str La).toList != (s.extract 4 8).toList) = true := by rw [bne, q1]; rfl
   have HO := Lib.hid (H1.out hq)
   clear HC1 H1 H2 H3 H4 H5 hq
   have g4 : (4 : Int) ≤ (s.size : Int) := by omega
   have g8 : (8 : Int) ≤ (s.size : Int) := by omega
   go_wp2_with fail
   first | go_region_with (go_at_call 114; refine (HRL.out _).mono ?_; rintro e w1 ⟨rfl, hb1⟩) | fail
   go_wp2
   go_ret3
   exact ⟨by rw [HO.out]; rfl, hb1.undrew⟩
end Go.Proofs.YtdbfaknpfepnfaaGreatDoor


namespace Go.Proofs.YtdbfaknpfepnfaaGreatDoor
open Go.RowKit CodecP

theorem Bd.types {w : World} {p : Nat} {S : Nat → Prop} {ps : List Pr} (h : Bd w p S ps) {k : Nat} (hk : S k) : ∃ cs t, w.heap[k]? = some (.cells cs t (0, 0)) ∧ t ≠ 40 := by
 obtain ⟨vw, vr, h1, h2, h3, h4⟩ := h.ex
 rcases (h4 k).1 hk with rfl | hk | hk
 ·exact ⟨_, _, h1, by decide⟩
 ·obtain ⟨cs, hc⟩ := own_type h2 hk
  exact ⟨cs, _, hc, by decide⟩
 ·obtain ⟨cs, hc⟩ := own_type h3 hk
  exact ⟨cs, _, hc, by decide⟩
structure BN (w0 w : World) (p : Nat) (S : Nat → Prop) (ps : List Pr) (nv : Value) (qs : List Pr) : Prop where
 own : BOwn w0 w p S ps
 row : w.ownsRow w0.heap.size 40 2 nv qs.length (flatR qs)
section
variable {w0 w w' : World} {p : Nat} {S S' : Nat → Prop} {ps ps' qs qs' : List Pr} {nv nv' : Value}
theorem BN.apart (h : BN w0 w p S ps nv qs) {k : Nat} (hk : nv.ownBlock = some k) : ¬ S k := fun hS => by
 obtain ⟨cs, t, h1, h2⟩ := h.own.bd.types hS
 obtain ⟨cs2, h3⟩ := own_type h.row hk
 exact type_ne h1 h3 h2 rfl
theorem BN.below (h : BN w0 w p S ps nv qs) (hb : Below w.heap.size w w') : BN w0 w' p S ps nv qs := ⟨h.own.below hb, owns_of_block h.row (fun k hk => hb.block k (h.row.lt k hk).2)⟩
theorem BN.add (h : BN w0 w p S ps nv qs) (hb : Bd w' p S' ps') (hf : Fr S w w') (hs : ∀ k, S' k → S k ∨ w.heap.size ≤ k) : BN w0 w' p S' ps' nv qs :=
 ⟨h.own.add hb hf hs, owns_of_block h.row (fun k hk => hf.block k (h.row.lt k hk).2 (h.apart hk))⟩
theorem BN.append (h : BN w0 w p S ps nv qs) {o : Obj} (hg : (w.alloc o).grownBy w' nv.ownBlock) (hr : w'.ownsRow w0.heap.size 40 2 nv' qs'.length (flatR qs')) : BN w0 w' p S ps nv' qs' := by
 have hf : Fr (fun k => nv.ownBlock = some k) w w' := ((Fr.refl _ w).alloc o).grown hg (fun _ _ h => h)
 exact ⟨⟨h.own.bd.keep (fun k hk => hf.block k (h.own.bd.lt k hk) (fun e => h.apart e hk)), h.own.own, h.own.bel.trans (hf.below h.own.bel.size (fun k _ hk => (h.row.lt k hk).1))⟩, hr⟩
end
theorem cells2_new (w : World) (x y : Value) (t : TypeId) : ∀ j u, [x, y][j]? = some u → (w.alloc (.cells #[x, y] t)).cell? ((⟨w.heap.size, 0, none⟩ : Addr).add j) = some u := by
 intro j u hj
 match j, hj with
 | 0, hj => simp at hj; subst hj; simp [Addr.add]
 | 1, hj => simp at hj; subst hj; simp [Addr.add]
theorem two_one (a b : ByteArray) : ∀ u ∈ [Value.string a, Value.string b], u.oneCell' = true := by
 intro u hu
 rcases List.mem_cons.1 hu with rfl | hu
 ·rfl
 ·rw [List.mem_singleton.1 hu]; rfl
theorem takeH {P : Program} {md : Region.Mode} {ops : Array Oper} {Q : Exit → Act → World → Prop} {S : World → Prop} {i : Nat} {d : Option Tmp} {oi : Oper} {v : Value} {fuel : Nat} {listed : Array Bool} {a : Act} {w : World} (hi : ops[i]? = some oi) (hd : oi.dst = d)
  (hs : Region.noSelect ops = true) (hf : Region.free md ops listed i = true) (hr : (Region.ready md ops listed).contains i = true)
  (hQ : ∀ c a w, Q (.panic c) (a.put d v) w → Q (.panic c) a w) (hy : YieldsIf P ops S oi v a) (hS : S w)
  (h : wpAnyH P md ops Q S fuel (listed.setIfInBounds i true) (a.put d v) w) : wpAnyH P md ops Q S (fuel + 1) listed a w := by
 subst hd
 exact wpAnyH_take hi hs hf hr hQ hy hS h
theorem yl_undef : (match some undef with | some (Value.bool b) => some b | _ => none : Option Bool) = none := rfl
attribute [local go_sem] yl_undef
theorem info_prR : (Tryz.prog.info? 40).map (fun i => (i.zero, i.size, i.bytes)) = some (some (.agg #[.string ⟨#[]⟩, .string ⟨#[]⟩]), 2, 32) := by kernel_rfl
theorem PrsIn.own {w : World} {B : Nat} {v : Value} {L : List Pr} (h : w.ownsRow B 40 2 v L.length (flatR L)) (hl : ∀ p ∈ L, Okp p) : PrsIn w v L := by
 obtain ⟨A, cap, rfl⟩ := own_form h
 exact ⟨⟨A, cap, rfl, Sn.of_own h⟩, fun p hp => by obtain ⟨h1, h2, h3⟩ := hl p hp; unfold maxLen; omega⟩
theorem lastK_get (ps : List Pr) (h : 0 < ps.length) : lastK ps = (ps[ps.length - 1]'(by omega)).1 := by
 have := lastK_take ps ps.length h (Nat.le_refl _)
 rwa [List.take_length] at this
end Go.Proofs.YtdbfaknpfepnfaaGreatDoor


