/-
  Texts of the claim, joined: BOpenP, BOpW, BFromP, BAwake, RefBW, RefBBW.
-/
import Derived.Test.YtdbfaknpfepnfaaGreatDoorMxBK6
import Derived.Lib.AppendStr
set_option maxRecDepth 100000
set_option maxHeartbeats 40000000
namespace Go.Proofs.YtdbfaknpfepnfaaGreatDoor
open CodecP

theorem four_split : ∀ (n : Nat) (m : List UInt8), m.length = 4 * n → ((List.range n).map fun k => value ((m.drop (4 * k)).take 4)).flatMap (fixed 4) = m
 | 0, m, h => by rw [List.length_eq_zero_iff.1 (by omega : m.length = 0)]; rfl
 | n + 1, m, h => by
  have e := four_split n (m.drop 4) (by rw [List.length_drop]; omega)
  rw [List.range_succ_eq_map, List.map_cons, List.flatMap_cons, List.map_map]
  have h4 : (m.take 4).length = 4 := by rw [List.length_take]; omega
  have e1 : fixed 4 (value ((m.drop (4 * 0)).take 4)) = m.take 4 := by
   rw [Nat.mul_zero, List.drop_zero]
   have := fixed_value (m.take 4)
   rw [h4] at this
   exact this
  rw [e1]
  have e2 : ((fun k => value ((m.drop (4 * k)).take 4)) ∘ Nat.succ) = fun k => value (((m.drop 4).drop (4 * k)).take 4) := by
   funext k
   simp only [Function.comp]
   rw [List.drop_drop, show 4 * k.succ = 4 + 4 * k by omega]
  rw [e2, e, List.take_append_drop]
theorem tail_split (l : List UInt8) (h : tailOk l) : l = l.take (tailE l) ++ ((List.range (tailN l)).map (tailR l)).flatMap (fixed 4) ++ fixed 4 (tailN l) := by
 obtain ⟨h1, h2, h3⟩ := h
 have hE : tailE l + 4 * tailN l + 4 = l.length := by unfold tailE; omega
 have e1 : fixed 4 (tailN l) = l.drop (l.length - 4) := by
  have := fixed_value (l.drop (l.length - 4))
  rw [show (l.drop (l.length - 4)).length = 4 by rw [List.length_drop]; omega] at this
  exact this
 have e2 := four_split (tailN l) ((l.drop (tailE l)).take (4 * tailN l)) (by rw [List.length_take, List.length_drop]; omega)
 have e3 : ((List.range (tailN l)).map fun k => value ((((l.drop (tailE l)).take (4 * tailN l)).drop (4 * k)).take 4)) = (List.range (tailN l)).map (tailR l) := by
  apply List.map_congr_left
  intro k hk
  rw [List.mem_range] at hk
  unfold tailR
  rw [List.drop_take, List.take_take, List.drop_drop, show min 4 (4 * tailN l - 4 * k) = 4 by omega]
 rw [e3] at e2
 rw [e2, e1, List.append_assoc]
 rw [show l.drop (l.length - 4) = (l.drop (tailE l)).drop (4 * tailN l) by rw [List.drop_drop]; congr 1; omega]
 rw [List.take_append_drop, List.take_append_drop]
theorem fm_get : ∀ (rs : List Nat) (t : List UInt8) (k : Nat) (h : k < rs.length), ((rs.flatMap (fixed 4) ++ t).drop (4 * k)).take 4 = fixed 4 rs[k]
 | a :: rs, t, 0, _ => by
  rw [List.flatMap_cons, Nat.mul_zero, List.drop_zero, List.append_assoc, List.take_left' (fixed_length 4 a)]
  rfl
 | a :: rs, t, k + 1, h => by
  rw [List.flatMap_cons, List.append_assoc, show 4 * (k + 1) = 4 + 4 * k by omega, ← List.drop_drop, List.drop_left' (fixed_length 4 a), fm_get rs t k (by simpa using h)]
  rfl
theorem blk_tail (ps : List Pr) (h : Rise ps) : tailOk (blk ps) ∧ tailN (blk ps) = (rst ps).length ∧ tailE (blk ps) = (dat ps).length ∧ (List.range (tailN (blk ps))).map (tailR (blk ps)) = rst ps := by
 have hl := blk_len ps
 have hr := rst_len ps
 have hn := h.le
 have hd := dat_len h.ok
 have hm : ((rst ps).flatMap (fixed 4)).length = 4 * (rst ps).length := by
  have : (blk ps).length = ((dat ps).length + ((rst ps).flatMap (fixed 4)).length) + 4 := by
   unfold blk; rw [List.length_append, List.length_append, fixed_length]
  omega
 have hN : tailN (blk ps) = (rst ps).length := by
  unfold tailN
  rw [hl]
  unfold blk
  rw [List.drop_left' (by rw [List.length_append]; omega), value_fixed _ _ (by omega)]
 have hE : tailE (blk ps) = (dat ps).length := by unfold tailE; omega
 refine ⟨⟨by omega, by omega, by omega⟩, hN, hE, ?_⟩
 rw [hN]
 apply List.ext_getElem (by simp)
 intro k h1 h2
 rw [List.getElem_map, List.getElem_range]
 unfold tailR
 rw [hE, ← List.drop_drop]
 have e : (blk ps).drop (dat ps).length = (rst ps).flatMap (fixed 4) ++ fixed 4 (rst ps).length := by
  unfold blk
  rw [List.append_assoc, List.drop_left' rfl]
 rw [e, fm_get _ _ _ h2, value_fixed _ _ (by have := rst_le ps _ (List.getElem_mem h2); omega)]
theorem blk_of (l : List UInt8) (ps : List Pr) (h : tailOk l) (hd : l.take (tailE l) = dat ps) (hr : (List.range (tailN l)).map (tailR l) = rst ps) : l = blk ps := by
 have hs := tail_split l h
 rw [hd, hr] at hs
 rw [hs]
 unfold blk
 rw [← hr, List.length_map, List.length_range]
theorem Rise.part {ps r : List Pr} (h : Rise (ps ++ r)) : Rise ps :=
 ⟨fun q hq => h.ok q (by simp [hq]), (List.pairwise_append.1 h.up).1, by have := h.le; rw [List.length_append] at this; omega⟩
structure InvO (l : List UInt8) (ps : List Pr) (rest : List UInt8) : Prop where
 rise : Rise ps
 data : l.take (tailE l) = dat ps ++ rest
 rs_ : rst ps = ((List.range (tailN l)).map (tailR l)).take (rst ps).length
 pre : ∀ Ps, Rise Ps → l = blk Ps → ∃ r, Ps = ps ++ r
theorem InvO.start (l : List UInt8) : InvO l [] (l.take (tailE l)) := ⟨Rise.nil, rfl, rfl, fun Ps _ _ => ⟨Ps, rfl⟩⟩
theorem InvO.step {l : List UInt8} {ps : List Pr} {rest : List UInt8} (h : InvO l ps rest) (hne : rest ≠ []) {Ps : List Pr} (hP : Rise Ps) (e : l = blk Ps) :
  ∃ p r, Ps = ps ++ p :: r ∧ stepF (lastK ps) (some rest) = some (p, sameOf ps.length (lastK ps) p.1, datF (ps.length + 1) p.1 r) ∧ Okp p ∧ lastK ps < p.1 ∧ ps.length < 4096 ∧ (ps.length % 8 = 0 → ps.length / 8 < tailN l ∧ tailR l (ps.length / 8) = (dat ps).length) := by
 obtain ⟨r, hr⟩ := h.pre Ps hP e
 obtain ⟨t1, t2, t3, t4⟩ := blk_tail Ps hP
 rw [← e] at t1 t2 t3 t4
 have hd := h.data
 have he : l.take (tailE l) = dat Ps := by
  rw [t3, e]; unfold blk; rw [List.append_assoc, List.take_left' rfl]
 rw [he, hr] at hd
 have hd2 : datF ps.length (lastK ps) r = rest := by
  unfold dat at hd
  rw [datF_append, Nat.zero_add] at hd
  exact List.append_cancel_left hd
 cases r with
 | nil => exact absurd hd2.symm hne
 | cons p r =>
  have hP2 : Rise (ps ++ [p]) := by
   rw [hr, show ps ++ p :: r = (ps ++ [p]) ++ r by simp] at hP
   exact hP.part
  obtain ⟨-, hok, hlt, hn⟩ := hP2.init
  have hs := sameOf_le ps.length (lastK ps) p.1
  have hl : (lastK ps).length ≤ 1000000 := by
   rcases List.eq_nil_or_concat ps with e | ⟨q, z, e⟩
   ·rw [e]; exact Nat.zero_le _
   ·rw [e, List.concat_eq_append, lastK_snoc]
    have := (h.rise.ok z (by rw [e]; simp)).2.1
    omega
  have ht : p.1.take (sameOf ps.length (lastK ps) p.1) = (lastK ps).take (sameOf ps.length (lastK ps) p.1) := by
   unfold sameOf
   split
   ·rfl
   ·exact (cmn_take _ _).symm
  refine ⟨p, r, hr, ?_, hok, hlt, hn, fun h8 => ?_⟩
  ·rw [← hd2, datF]
   exact stepF_ent _ _ _ _ hs.1 ht hl (by have := hok.2.1; omega) hok.2.2
  ·have hrl := rst_len ps
   have hrs := rst_snoc ps p
   rw [if_pos h8] at hrs
   have hrp : ∃ t, rst Ps = (rst ps ++ [(dat ps).length]) ++ t := by
    rw [hr, show ps ++ p :: r = (ps ++ [p]) ++ r by simp, ← hrs]
    unfold rst
    rw [rstF_append]
    exact ⟨_, rfl⟩
   obtain ⟨t, ht⟩ := hrp
   have hk : (rst ps).length = ps.length / 8 := by omega
   have hlen : ps.length / 8 < (rst Ps).length := by rw [ht]; simp; omega
   refine ⟨by omega, ?_⟩
   have g : (rst Ps)[ps.length / 8]? = some (dat ps).length := by
    rw [ht, List.append_assoc, ← hk, List.getElem?_append_right (Nat.le_refl _)]; simp
   rw [← t4, List.getElem?_map, List.getElem?_range (by omega)] at g
   simpa using g
theorem InvO.next {l : List UInt8} {ps : List Pr} {rest rest2 : List UInt8} {p : Pr} {same : Nat} (h : InvO l ps rest) (hne : rest ≠ []) (hx : stepF (lastK ps) (some rest) = some (p, same, rest2)) (hok : Okp p) (hlt : lastK ps < p.1) (hn : ps.length < 4096)
  (h8 : ps.length % 8 = 0 → ps.length / 8 < tailN l ∧ tailR l (ps.length / 8) = (dat ps).length ∧ same = 0) (h9 : ps.length % 8 ≠ 0 → same = cmn (lastK ps) p.1) : InvO l (ps ++ [p]) rest2 := by
 have hsame : same = sameOf ps.length (lastK ps) p.1 := by
  unfold sameOf
  split
  ·rename_i e; exact (h8 e).2.2
  ·rename_i e; exact h9 e
 obtain ⟨e1, -⟩ := ent_stepF hx
 simp only [Option.some.injEq] at e1
 refine ⟨h.rise.snoc hok hlt hn, ?_, ?_, fun Ps hP e => ?_⟩
 ·rw [h.data, e1, dat_snoc, hsame, List.append_assoc]
 ·rw [rst_snoc]
  split
  ·rename_i e
   obtain ⟨q1, q2, -⟩ := h8 e
   have hrl := rst_len ps
   have hk : (rst ps).length = ps.length / 8 := by omega
   rw [List.length_append, List.length_singleton, List.take_succ_eq_append_getElem (by simp; omega), ← h.rs_, List.getElem_map, List.getElem_range, hk, q2]
  ·rw [List.append_nil]; exact h.rs_
 ·obtain ⟨p2, r, a1, a2, -⟩ := h.step hne hP e
  rw [hx] at a2
  simp only [Option.some.injEq, Prod.mk.injEq] at a2
  exact ⟨r, by rw [a1, a2.1]; simp⟩
theorem InvO.done {l : List UInt8} {ps : List Pr} (h : InvO l ps []) (ht : tailOk l) (hn : tailN l = (ps.length + 7) / 8) : l = blk ps := by
 refine blk_of l ps ht (by rw [h.data, List.append_nil]) ?_
 rw [h.rs_, List.take_of_length_le]
 rw [List.length_map, List.length_range, rst_len, hn]
 exact Nat.le_refl _
theorem InvO.no {l : List UInt8} {ps : List Pr} (h : InvO l ps []) (hn : tailN l ≠ (ps.length + 7) / 8) {Ps : List Pr} (hP : Rise Ps) (e : l = blk Ps) : False := by
 obtain ⟨r, hr⟩ := h.pre Ps hP e
 obtain ⟨t1, t2, t3, t4⟩ := blk_tail Ps hP
 rw [← e] at t1 t2 t3 t4
 have hd := h.data
 have he : l.take (tailE l) = dat Ps := by
  rw [t3, e]; unfold blk; rw [List.append_assoc, List.take_left' rfl]
 rw [he, hr] at hd
 have hd2 : datF ps.length (lastK ps) r = [] := by
  unfold dat at hd
  rw [datF_append, Nat.zero_add] at hd
  exact List.append_cancel_left hd
 cases r with
 | nil =>
  rw [List.append_nil] at hr
  subst hr
  exact hn (by rw [t2, rst_len])
 | cons p r =>
  have h1 := congrArg List.length hd2
  rw [datF, List.length_append] at h1
  have h2 : 1 ≤ p.1.length := (hP.ok p (by rw [hr]; simp)).1
  have h3 : 0 < (ent (sameOf ps.length (lastK ps) p.1) p).length := by
   unfold ent
   simp only [List.length_append]
   have := grp_pos (sameOf ps.length (lastK ps) p.1)
   omega
  rw [List.length_nil] at h1
  omega
end Go.Proofs.YtdbfaknpfepnfaaGreatDoor


namespace Go.Proofs.YtdbfaknpfepnfaaGreatDoor
open Go.RowKit CodecP

structure Bk (w : World) (B p : Nat) (v : Value) (l : List Pr) : Prop where
 cells : w.heap[p]? = some (.cells #[.string (str (dat l)), v, .int .i64 l.length] 179 (0, 0))
 row : w.ownsRow B 3 1 v (rst l).length ((rst l).map fun n : Nat => Value.int .i64 n)
 rise : Rise l
 at_ : B ≤ p
theorem open_any (s : ByteArray) (w : World) (hs : s.size ≤ 100000000) :
    Calls Tryz.prog 86 #[.string s] w fun e w' => Below w.heap.size w w' ∧
      ((e = .returned (.tuple #[.pointer none, .int .i64 3]) ∧ ∀ Ps, Rise Ps → bl s ≠ blk Ps) ∨
       (∃ ps p v, bl s = blk ps ∧ e = .returned (.tuple #[(Value.pointer (some ⟨p, 0, none⟩)), .int .i64 0]) ∧ Bk w' w.heap.size p v ps)) := by
  have HTL := Lib.hid (tail_any s w (by omega))
  have HRD := Lib.hid read_o
  have HST := Lib.hid step_any
  have HGD := Lib.hid good_o
  have HLS : Hid (∀ (p : Nat) (l : List UInt8) (w : World), RO w p (some l) → Calls Tryz.prog 125 #[(Value.pointer (some ⟨p, 0, none⟩))] w fun e w' => e = .returned (.int .i64 (l.length : Nat)) ∧ w = w') := Lib.hid fun p l w h => left_o p (some l) w h
  have HEN := Lib.hid end_o
  have eb := bl_size s
  go_enter Tryz.func86, Tryz.ntmps86
  go_wp2_with fail
  (with_reducible refine HTL.out.mono ?_)
  rintro e w1 ⟨hb1, ⟨hno, rfl⟩ | ⟨hok, v, rfl, hrow⟩⟩
  · have HB1 := Lib.hid hb1
    have HNO := Lib.hid hno
    clear hb1 hno
    go_wp2_with fail
    exact bodyPost_ret (v := .tuple #[.pointer none, .int .i64 3]) (by simp [results, Tryz.results86, go_sem]) rfl ⟨HB1.out, .inl ⟨rfl, fun Ps hP e => HNO.out (by rw [e]; exact (blk_tail Ps hP).1)⟩⟩
  · obtain ⟨ao, cp, hv⟩ := own_form hrow
    subst hv
    have HB1 := Lib.hid hb1
    have HOK := Lib.hid hok
    have HROW := Lib.hid hrow
    have hle : tailE (bl s) ≤ s.size := by unfold tailE; omega
    have ex : s.extract 0 (tailE (bl s)) = str ((bl s).take (tailE (bl s))) := by
      rw [← str_bl (s.extract _ _), ext_bl, List.drop_zero, Nat.sub_zero]
    have HEX := Lib.hid ex
    clear hb1 hok hrow ex
    go_wp2_with fail
    rw [HEX.out]
    (with_reducible refine (HRD.out _ _ ?_).mono ?_)
    · rw [← HEX.out, ByteArray.size_extract]; unfold maxLen; omega
    rintro e w2 ⟨rfl, h2, hf2⟩
    rw [bl_str] at h2
    have hsz1 := HB1.out.size
    rw [show ∀ o, (w1.alloc o).heap.size = w1.heap.size + 1 from fun o => by simp] at h2 hf2 ⊢
    have hc2 : w2.heap[w1.heap.size]? = some (.cells #[.string (str ((bl s).take (tailE (bl s)))), .slice ao (tailN (bl s)) cp, .int .i64 0] 179 (0, 0)) := by
      rw [hf2.block _ (Nat.lt_succ_self _)]
      show (w1.heap.push _)[w1.heap.size]? = _
      simp
    have hb2 : Below w1.heap.size w1 w2 := ((Below.refl w1.heap.size w1).alloc (Nat.le_refl _) _).trans (hf2.mono (Nat.le_succ _))
    have H2 := Lib.hid h2
    have HC2 := Lib.hid hc2
    have HB2 := Lib.hid hb2
    clear h2 hf2 hc2 hb2
    go_wp2_with fail
    go_loopg [9] (tailE (bl s)) (fun g lv wr => ∃ (ps : List Pr) (rest : List UInt8), rest.length = g ∧ lv = .string (str (lastK ps)) ∧ InvO (bl s) ps rest ∧ RO wr (w1.heap.size + 1) (some rest) ∧
      wr.heap[w1.heap.size]? = some (.cells #[.string (str ((bl s).take (tailE (bl s)))), .slice ao (tailN (bl s)) cp, .int .i64 ps.length] 179 (0, 0)) ∧ Below w1.heap.size w1 wr)
    case atStart => exact ⟨[], _, by rw [List.length_take, eb]; omega, rfl, InvO.start _, H2.out, HC2.out, HB2.out⟩
    case round =>
      obtain ⟨ps, rest, hg, rfl, hI, hR, hC, hB⟩ := hrel
      have HI := Lib.hid hI
      have HR := Lib.hid hR
      have HC := Lib.hid hC
      have HB := Lib.hid hB
      have cb := cellOf2 (o := 2) hC rfl
      have hpl := hI.rise.le
      clear hI hR hC hB
      by_cases hr0 : rest = []
      · have d0 : decide ((0 : Int) < (rest.length : Int)) = false := by rw [decide_eq_false_iff_not, hr0]; decide
        go_wp2_with fail
        (with_reducible refine (HLS.out _ _ _ HR.out).mono ?_)
        rintro e w4 ⟨rfl, rfl⟩
        go_wp2_with fail
        subst hr0
        (with_reducible refine (HEN.out _ _ _ HR.out).mono ?_)
        rintro e w4 ⟨rfl, rfl⟩
        rw [show decide (some ([] : List UInt8) = some []) = true from decide_eq_true rfl]
        by_cases hn : tailN (bl s) = (ps.length + 7) / 8
        · have d1 : ((tailN (bl s) : Int) != ((ps.length : Int) + 8 - 1) / 8) = false := by rw [bne_eq_false_iff_eq]; omega
          go_wp2_with fail
          have hrs : (List.range (tailN (bl s))).map (tailR (bl s)) = rst ps := by
            rw [HI.out.rs_, List.take_of_length_le]
            rw [List.length_map, List.length_range, rst_len, hn]
            exact Nat.le_refl _
          have hrow : wr.ownsRow w.heap.size 3 1 (.slice ao (tailN (bl s)) cp) (rst ps).length ((rst ps).map fun n : Nat => Value.int .i64 n) := by
            have h := owns_of_block HROW.out (fun j hj => HB.out.block j (HROW.out.lt j hj).2)
            rw [← hrs, List.length_map, List.length_range, List.map_map]
            exact h
          have hcell := HC.out
          rw [HI.out.data, List.append_nil] at hcell
          exact bodyPost_ret (v := .tuple #[(Value.pointer (some ⟨w1.heap.size, 0, none⟩)), .int .i64 0]) (by simp [results, Tryz.results86, go_sem]) rfl ⟨HB1.out.trans (HB.out.mono hsz1), .inr ⟨ps, _, _, HI.out.done HOK.out hn, rfl, hcell, hrow, HI.out.rise, hsz1⟩⟩
        · have d1 : ((tailN (bl s) : Int) != ((ps.length : Int) + 8 - 1) / 8) = true := by rw [bne_iff_ne]; omega
          go_wp2_with fail
          exact bodyPost_ret (v := .tuple #[.pointer none, .int .i64 3]) (by simp [results, Tryz.results86, go_sem]) rfl ⟨HB1.out.trans (HB.out.mono hsz1), .inl ⟨rfl, fun Ps hP e => HI.out.no hn hP e⟩⟩
      · have hpos : 0 < rest.length := List.length_pos_iff.2 hr0
        have d0 : decide ((0 : Int) < (rest.length : Int)) = true := by rw [decide_eq_true_eq]; omega
        have hdl : tailE (bl s) = (dat ps).length + rest.length := by
          have := congrArg List.length HI.out.data
          rw [List.length_take, List.length_append, eb] at this
          omega
        have hat : ((tailE (bl s) : Int) - (rest.length : Int)) = ((dat ps).length : Int) := by omega
        clear hdl
        have hlk : (str (lastK ps)).size ≤ 1000000 := by
          rw [show (str (lastK ps)).size = (lastK ps).length by simp [str, ByteArray.size]]
          rcases List.eq_nil_or_concat ps with e | ⟨q, z, e⟩
          · rw [e]; exact Nat.zero_le _
          · rw [e, List.concat_eq_append, lastK_snoc]
            have := (HI.out.rise.ok z (by rw [e]; simp)).2.1
            omega
        have hx : ∃ X, X = stepF (lastK ps) (some rest) := ⟨_, rfl⟩
        obtain ⟨X, hX⟩ := hx
        have HX := Lib.hid hX
        have HSS := Lib.hid (HST.out (w1.heap.size + 1) (str (lastK ps)) (some rest) wr HR.out hlk)
        rw [bl_str, ← HX.out] at HSS
        clear hX
        go_wp2_with fail
        (with_reducible refine (HLS.out _ _ _ HR.out).mono ?_)
        rintro e w4 ⟨rfl, rfl⟩
        go_wp2_with fail
        (with_reducible refine (HLS.out _ _ _ HR.out).mono ?_)
        rintro e w4 ⟨rfl, rfl⟩
        go_wp2_with fail
        (with_reducible refine HSS.out.mono ?_)
        rintro e w4 ⟨rfl, h4, hf4⟩
        have hC4 : w4.heap[w1.heap.size]? = _ := (hf4.block _ (lt_of_block HC.out) (fun e => by unfold RdS at e; omega)).trans HC.out
        have H4 := Lib.hid h4
        have HC4 := Lib.hid hC4
        have cb4 := cellOf2 (o := 2) hC4 rfl
        have HB4 : Hid (Below w1.heap.size w1 w4) := Lib.hid (HB.out.trans (hf4.below HB.out.size (fun k _ hk => by unfold RdS at hk; omega)))
        clear h4 hf4 hC4
        have hp5 : (w4.alloc (.cells #[.string (str (prO X).1), .string (str (prO X).2)] 43)).heap[w4.heap.size]? = some (.cells #[.string (str (prO X).1), .string (str (prO X).2)] 43 (0, 0)) := by
          show (w4.heap.push _)[w4.heap.size]? = _
          simp
        have h5 : Fr (fun _ => False) w4 (w4.alloc (.cells #[.string (str (prO X).1), .string (str (prO X).2)] 43)) := (Fr.refl _ w4).alloc _
        have H5 := Lib.hid (H4.out.keep h5 (fun h => h))
        have hc5 := (h5.block w1.heap.size (lt_of_block HC4.out) (fun h => h)).trans HC4.out
        have HC5 := Lib.hid hc5
        have HP5 := Lib.hid hp5
        have HB5 := Lib.hid (HB4.out.trans (h5.below HB4.out.size (fun _ _ h => h.elim)))
        clear hp5 h5 hc5
        go_upto_region 10 with (fail)
        generalize w4.alloc (.cells #[.string (str (prO X).1), .string (str (prO X).2)] 43) = w5 at *
        have cb5 := cellOf2 (o := 2) HC5.out rfl
        have f2 := free_of2 2 HC5.out
        have k0 := cellOf2 (o := 0) HP5.out rfl
        have k1 := cellOf2 (o := 1) HP5.out rfl
        by_cases h8 : ps.length % 8 = 0
        · have d8 : (((ps.length : Int) % 8) == 0) = true := by rw [beq_iff_eq]; omega
          by_cases q1 : ps.length / 8 < tailN (bl s)
          · have d1 : decide ((tailN (bl s) : Int) ≤ (ps.length : Int) / 8) = false := by rw [decide_eq_false_iff_not]; omega
            have hrow5 := owns_of_block HROW.out (fun j hj => HB5.out.block j (HROW.out.lt j hj).2)
            obtain ⟨g6, cp6, hv6, _, hg6, hc6, hm6, hcell6⟩ := own_pos hrow5 (by omega)
            injection hv6 with hv6 _ hv6'
            subst hv6 hv6'
            have hc7 := hcell6 (ps.length / 8) (.int .i64 (tailR (bl s) (ps.length / 8))) (by rw [List.getElem?_map, List.getElem?_range q1]; rfl)
            have hq : ((ps.length : Int) / 8).toNat = ps.length / 8 := by omega
            have hq2 : (0 : Int) ≤ (ps.length : Int) / 8 := by omega
            have hq3 : (ps.length : Int) / 8 < (tailN (bl s) : Int) := by omega
            clear hcell6 hrow5
            by_cases q4 : tailR (bl s) (ps.length / 8) = (dat ps).length
            · have d4 : ((tailR (bl s) (ps.length / 8) : Int) != ((dat ps).length : Int)) = false := by rw [bne_eq_false_iff_eq]; omega
              by_cases q5 : smO X = 0
              · have d5 : ((smO X : Int) != 0) = false := by rw [bne_eq_false_iff_eq]; omega
                go_wp2_with fail
                (with_reducible refine (HGD.out _ _ _ H5.out).mono ?_)
                rintro e w6 ⟨rfl, rfl⟩
                rcases X with _ | ⟨pk, same, rest2⟩
                · rw [show (rsO none).isSome = false from rfl]
                  go_wp2_with fail
                  exact bodyPost_ret (v := .tuple #[.pointer none, .int .i64 3]) (by simp [results, Tryz.results86, go_sem]) rfl ⟨HB1.out.trans (HB5.out.mono hsz1), .inl ⟨rfl, fun Ps hP e => by
                    obtain ⟨p, r, -, hst, ho, hl, hn, h⟩ := HI.out.step hr0 hP e
                    rw [← HX.out] at hst; cases hst⟩⟩
                · rw [show (rsO (some (pk, same, rest2))).isSome = true from rfl]
                  simp only [show prO (some (pk, same, rest2)) = pk from rfl, show smO (some (pk, same, rest2)) = same from rfl, show rsO (some (pk, same, rest2)) = some rest2 from rfl] at *
                  obtain ⟨es1, es2, es3, es4, es5, es6⟩ := ent_stepF HX.out.symm
                  rw [show (str (lastK ps)).size = (lastK ps).length by simp [str, ByteArray.size]] at hlk
                  have z1 : (str pk.1).size = pk.1.length := by simp [str, ByteArray.size]
                  have z2 : (str pk.2).size = pk.2.length := by simp [str, ByteArray.size]
                  by_cases hok : Okp pk
                  · have HRY := Lib.hid (right_yes (str pk.1) (str pk.2) w5 (by rw [bl_str, bl_str]; exact hok))
                    by_cases hlt : lastK ps < pk.1
                    · obtain ⟨g1, g2⟩ := leq_no (a := str pk.1) (b := str (lastK ps)) (by rw [bl_str, bl_str]; exact hlt)
                      by_cases hn : ps.length = 4096
                      · have d6 : ((ps.length : Int) == 4096) = true := by rw [beq_iff_eq]; omega
                        go_wp2_with fail
                        (with_reducible refine HRY.out.mono ?_)
                        rintro e w6 ⟨rfl, rfl⟩
                        go_wp2_with fail
                        exact bodyPost_ret (v := .tuple #[.pointer none, .int .i64 3]) (by simp [results, Tryz.results86, go_sem]) rfl ⟨HB1.out.trans (HB5.out.mono hsz1), .inl ⟨rfl, fun Ps hP e => by
                    obtain ⟨p, r, -, hst, ho, hl, hn2, h⟩ := HI.out.step hr0 hP e
                    omega⟩⟩
                      · have d6 : ((ps.length : Int) == 4096) = false := by rw [beq_eq_false_iff_ne]; omega
                        go_wp2_with fail
                        (with_reducible refine HRY.out.mono ?_)
                        rintro e w6 ⟨rfl, rfl⟩
                        go_wp2_with fail
                        have hNX : InvO (bl s) (ps ++ [pk]) rest2 := HI.out.next hr0 HX.out.symm hok hlt (by omega) (fun _ => ⟨q1, q4, q5⟩) (fun h => absurd h8 h)
                        have hFS : Fr (fun k => k = w1.heap.size) w5 (w5.setCell ⟨w1.heap.size, 2, none⟩ (.int .i64 ((ps.length : Int) + 1))) := (Fr.refl (fun k => k = w1.heap.size) w5).setCell (p := ⟨w1.heap.size, 2, none⟩) (.inl rfl) _
                        have HNX := Lib.hid hNX
                        have HFS := Lib.hid hFS
                        clear hNX hFS
                        go_roundg rest2.length
                        case measure =>
                          injection es1 with es1
                          have e1 := congrArg List.length es1
                          rw [List.length_append] at e1
                          have e2 := hok.1
                          have e3 : 0 < (ent same pk).length := by
                            have := grp_pos same
                            unfold ent
                            simp only [List.length_append]
                            omega
                          omega
                        case rel =>
                          refine ⟨ps ++ [pk], rest2, rfl, by rw [lastK_snoc], HNX.out, H5.out.keep HFS.out (fun e => by omega), ?_, HB5.out.trans (HFS.out.below HB5.out.size (fun k _ e => by omega))⟩
                          have h := setAt2 (o := 2) (.int .i64 ((ps.length : Int) + 1)) HC5.out
                          rw [List.length_append, List.length_singleton]
                          exact h
                    · have g1 := leq_yes (a := str pk.1) (b := str (lastK ps)) (by rw [bl_str, bl_str]; exact hlt)
                      go_wp2_with fail
                      (with_reducible refine HRY.out.mono ?_)
                      rintro e w6 ⟨rfl, rfl⟩
                      go_wp2_with fail
                      exact bodyPost_ret (v := .tuple #[.pointer none, .int .i64 3]) (by simp [results, Tryz.results86, go_sem]) rfl ⟨HB1.out.trans (HB5.out.mono hsz1), .inl ⟨rfl, fun Ps hP e => by
                    obtain ⟨p, r, -, hst, ho, hl, hn, h⟩ := HI.out.step hr0 hP e
                    (rw [← HX.out, Option.some.injEq, Prod.mk.injEq] at hst; obtain ⟨rfl, -⟩ := hst; exact hlt hl)⟩⟩
                  · have HRN := Lib.hid (right_no (str pk.1) (str pk.2) w5 (by unfold maxLen; omega) (by unfold maxLen; omega) (by rw [bl_str, bl_str]; exact hok))
                    go_wp2_with fail
                    (with_reducible refine HRN.out.mono ?_)
                    rintro e w6 ⟨rfl, rfl⟩
                    go_wp2_with fail
                    exact bodyPost_ret (v := .tuple #[.pointer none, .int .i64 3]) (by simp [results, Tryz.results86, go_sem]) rfl ⟨HB1.out.trans (HB5.out.mono hsz1), .inl ⟨rfl, fun Ps hP e => by
                    obtain ⟨p, r, -, hst, ho, hl, hn, h⟩ := HI.out.step hr0 hP e
                    (rw [← HX.out, Option.some.injEq, Prod.mk.injEq] at hst; obtain ⟨rfl, -⟩ := hst; exact hok ho)⟩⟩
              · have d5 : ((smO X : Int) != 0) = true := by rw [bne_iff_ne]; omega
                go_wp2_with fail
                exact bodyPost_ret (v := .tuple #[.pointer none, .int .i64 3]) (by simp [results, Tryz.results86, go_sem]) rfl ⟨HB1.out.trans (HB5.out.mono hsz1), .inl ⟨rfl, fun Ps hP e => by
                  obtain ⟨p, r, -, hst, ho, hl, hn, h⟩ := HI.out.step hr0 hP e
                  (rw [← HX.out] at hst; subst hst; exact q5 (by show sameOf _ _ _ = 0; unfold sameOf; rw [if_pos h8]))⟩⟩
            · have d4 : ((tailR (bl s) (ps.length / 8) : Int) != ((dat ps).length : Int)) = true := by rw [bne_iff_ne]; omega
              go_wp2_with fail
              exact bodyPost_ret (v := .tuple #[.pointer none, .int .i64 3]) (by simp [results, Tryz.results86, go_sem]) rfl ⟨HB1.out.trans (HB5.out.mono hsz1), .inl ⟨rfl, fun Ps hP e => by
                  obtain ⟨p, r, -, hst, ho, hl, hn, h⟩ := HI.out.step hr0 hP e
                  exact q4 (h h8).2⟩⟩
          · have d1 : decide ((tailN (bl s) : Int) ≤ (ps.length : Int) / 8) = true := by rw [decide_eq_true_eq]; omega
            go_wp2_with fail
            exact bodyPost_ret (v := .tuple #[.pointer none, .int .i64 3]) (by simp [results, Tryz.results86, go_sem]) rfl ⟨HB1.out.trans (HB5.out.mono hsz1), .inl ⟨rfl, fun Ps hP e => by
              obtain ⟨p, r, -, -, -, -, -, h⟩ := HI.out.step hr0 hP e
              exact q1 (h h8).1⟩⟩
        · have d8 : (((ps.length : Int) % 8) == 0) = false := by rw [beq_eq_false_iff_ne]; omega
          go_wp2_with fail
          (with_reducible refine (HGD.out _ _ _ H5.out).mono ?_)
          rintro e w6 ⟨rfl, rfl⟩
          rcases X with _ | ⟨pk, same, rest2⟩
          · rw [show (rsO none).isSome = false from rfl]
            go_wp2_with fail
            exact bodyPost_ret (v := .tuple #[.pointer none, .int .i64 3]) (by simp [results, Tryz.results86, go_sem]) rfl ⟨HB1.out.trans (HB5.out.mono hsz1), .inl ⟨rfl, fun Ps hP e => by
              obtain ⟨p, r, -, hst, ho, hl, hn, h⟩ := HI.out.step hr0 hP e
              rw [← HX.out] at hst; cases hst⟩⟩
          · rw [show (rsO (some (pk, same, rest2))).isSome = true from rfl]
            simp only [show prO (some (pk, same, rest2)) = pk from rfl, show smO (some (pk, same, rest2)) = same from rfl, show rsO (some (pk, same, rest2)) = some rest2 from rfl] at *
            obtain ⟨es1, es2, es3, es4, es5, es6⟩ := ent_stepF HX.out.symm
            rw [show (str (lastK ps)).size = (lastK ps).length by simp [str, ByteArray.size]] at hlk
            have z1 : (str pk.1).size = pk.1.length := by simp [str, ByteArray.size]
            have z2 : (str pk.2).size = pk.2.length := by simp [str, ByteArray.size]
            by_cases hok : Okp pk
            · have HRY := Lib.hid (right_yes (str pk.1) (str pk.2) w5 (by rw [bl_str, bl_str]; exact hok))
              by_cases hlt : lastK ps < pk.1
              · obtain ⟨g1, g2⟩ := leq_no (a := str pk.1) (b := str (lastK ps)) (by rw [bl_str, bl_str]; exact hlt)
                have HCM := Lib.hid (common_any (str (lastK ps)) (str pk.1) w5 (by unfold maxLen; rw [show (str (lastK ps)).size = (lastK ps).length by simp [str, ByteArray.size]]; omega) (by unfold maxLen; omega))
                rw [bl_str, bl_str] at HCM
                by_cases hcm : same = cmn (lastK ps) pk.1
                · have d9 : ((same : Int) != (cmn (lastK ps) pk.1 : Int)) = false := by rw [bne_eq_false_iff_eq]; omega
                  go_wp2_with fail
                  (with_reducible refine HRY.out.mono ?_)
                  rintro e w6 ⟨rfl, rfl⟩
                  go_wp2_with fail
                  (with_reducible refine HCM.out.mono ?_)
                  rintro e w6 ⟨rfl, hb6⟩
                  have hf6 := Fr.of_below (fun _ => False) hb6
                  have H6 := Lib.hid (H5.out.keep hf6 (fun h => h))
                  have hc6 := (hf6.block w1.heap.size (lt_of_block HC5.out) (fun h => h)).trans HC5.out
                  have HC6 := Lib.hid hc6
                  have cb6 := cellOf2 (o := 2) hc6 rfl
                  have f6 := free_of2 2 hc6
                  have hp6 := (hf6.block w4.heap.size (lt_of_block HP5.out) (fun h => h)).trans HP5.out
                  have k60 := cellOf2 (o := 0) hp6 rfl
                  have HB6 := Lib.hid (HB5.out.trans (hf6.below HB5.out.size (fun _ _ h => h.elim)))
                  clear hf6 hb6 hc6 hp6
                  by_cases hn : ps.length = 4096
                  · exact absurd (by rw [hn]) h8
                  · have d6 : ((ps.length : Int) == 4096) = false := by rw [beq_eq_false_iff_ne]; omega
                    go_wp2_with fail
                    have hNX : InvO (bl s) (ps ++ [pk]) rest2 := HI.out.next hr0 HX.out.symm hok hlt (by omega) (fun h => absurd h h8) (fun _ => hcm)
                    have hFS : Fr (fun k => k = w1.heap.size) w6 (w6.setCell ⟨w1.heap.size, 2, none⟩ (.int .i64 ((ps.length : Int) + 1))) := (Fr.refl (fun k => k = w1.heap.size) w6).setCell (p := ⟨w1.heap.size, 2, none⟩) (.inl rfl) _
                    have HNX := Lib.hid hNX
                    have HFS := Lib.hid hFS
                    clear hNX hFS
                    go_roundg rest2.length
                    case measure =>
                      injection es1 with es1
                      have e1 := congrArg List.length es1
                      rw [List.length_append] at e1
                      have e2 := hok.1
                      have e3 : 0 < (ent same pk).length := by
                        have := grp_pos same
                        unfold ent
                        simp only [List.length_append]
                        omega
                      omega
                    case rel =>
                      refine ⟨ps ++ [pk], rest2, rfl, by rw [lastK_snoc], HNX.out, H6.out.keep HFS.out (fun e => by omega), ?_, HB6.out.trans (HFS.out.below HB6.out.size (fun k _ e => by omega))⟩
                      have h := setAt2 (o := 2) (.int .i64 ((ps.length : Int) + 1)) HC6.out
                      rw [List.length_append, List.length_singleton]
                      exact h
                · have d9 : ((same : Int) != (cmn (lastK ps) pk.1 : Int)) = true := by rw [bne_iff_ne]; omega
                  go_wp2_with fail
                  (with_reducible refine HRY.out.mono ?_)
                  rintro e w6 ⟨rfl, rfl⟩
                  go_wp2_with fail
                  (with_reducible refine HCM.out.mono ?_)
                  rintro e w6 ⟨rfl, hb6⟩
                  have HB6 := Lib.hid (HB5.out.trans ((Fr.of_below (fun _ => False) hb6).below HB5.out.size (fun _ _ h => h.elim)))
                  clear hb6
                  go_wp2_with fail
                  exact bodyPost_ret (v := .tuple #[.pointer none, .int .i64 3]) (by simp [results, Tryz.results86, go_sem]) rfl ⟨HB1.out.trans (HB6.out.mono hsz1), .inl ⟨rfl, fun Ps hP e => by
                    obtain ⟨p, r, -, hst, ho, hl, hn, h⟩ := HI.out.step hr0 hP e
                    rw [← HX.out, Option.some.injEq, Prod.mk.injEq] at hst
                    obtain ⟨rfl, hst⟩ := hst
                    have hst := congrArg Prod.fst hst
                    exact hcm (hst.trans (by show sameOf _ _ _ = _; unfold sameOf; rw [if_neg h8]))⟩⟩
              · have g1 := leq_yes (a := str pk.1) (b := str (lastK ps)) (by rw [bl_str, bl_str]; exact hlt)
                go_wp2_with fail
                (with_reducible refine HRY.out.mono ?_)
                rintro e w6 ⟨rfl, rfl⟩
                go_wp2_with fail
                exact bodyPost_ret (v := .tuple #[.pointer none, .int .i64 3]) (by simp [results, Tryz.results86, go_sem]) rfl ⟨HB1.out.trans (HB5.out.mono hsz1), .inl ⟨rfl, fun Ps hP e => by
                  obtain ⟨p, r, -, hst, ho, hl, hn, h⟩ := HI.out.step hr0 hP e
                  (rw [← HX.out, Option.some.injEq, Prod.mk.injEq] at hst; obtain ⟨rfl, -⟩ := hst; exact hlt hl)⟩⟩
            · have HRN := Lib.hid (right_no (str pk.1) (str pk.2) w5 (by unfold maxLen; omega) (by unfold maxLen; omega) (by rw [bl_str, bl_str]; exact hok))
              go_wp2_with fail
              (with_reducible refine HRN.out.mono ?_)
              rintro e w6 ⟨rfl, rfl⟩
              go_wp2_with fail
              exact bodyPost_ret (v := .tuple #[.pointer none, .int .i64 3]) (by simp [results, Tryz.results86, go_sem]) rfl ⟨HB1.out.trans (HB5.out.mono hsz1), .inl ⟨rfl, fun Ps hP e => by
                obtain ⟨p, r, -, hst, ho, hl, hn, h⟩ := HI.out.step hr0 hP e
                (rw [← HX.out, Option.some.injEq, Prod.mk.injEq] at hst; obtain ⟨rfl, -⟩ := hst; exact hok ho)⟩⟩
end Go.Proofs.YtdbfaknpfepnfaaGreatDoor


namespace Go.Proofs.YtdbfaknpfepnfaaGreatDoor
open CodecP

theorem datF_restart (n : Nat) (h : n % 8 = 0) (a b : List UInt8) (ps : List Pr) : datF n a ps = datF n b ps := by
 cases ps with
 | nil => rfl
 | cons p r => simp only [datF, sameOf, if_pos h]
theorem stepF_dat {l : List Pr} (ho : ∀ p ∈ l, Okp p) (i : Nat) (last : List UInt8) (hl : last.length ≤ 80) (hi : i < l.length) :
  stepF last (some (datF i last (l.drop i))) = some (l[i], sameOf i last l[i].1, datF (i + 1) l[i].1 (l.drop (i + 1))) := by
 rw [List.drop_eq_getElem_cons hi, datF]
 have hs := sameOf_le i last l[i].1
 have hok := ho l[i] (List.getElem_mem hi)
 refine stepF_ent _ _ _ _ hs.1 ?_ (by omega) (by have := hok.2.1; omega) hok.2.2
 unfold sameOf
 split
 ·rfl
 ·exact (cmn_take _ _).symm
theorem rst_at (l : List Pr) (r : Nat) (h : 8 * r < l.length) : ∃ off, (rst l)[r]? = some off ∧ off ≤ (dat l).length ∧ (dat l).drop off = datF (8 * r) [] (l.drop (8 * r)) := by
 have hsplit : l = l.take (8 * r) ++ l.drop (8 * r) := (List.take_append_drop _ _).symm
 have hlen : (l.take (8 * r)).length = 8 * r := by rw [List.length_take]; omega
 have hd : dat l = dat (l.take (8 * r)) ++ datF (8 * r) (lastK (l.take (8 * r))) (l.drop (8 * r)) := by
  have := datF_append (l.take (8 * r)) (l.drop (8 * r)) 0 []
  rw [← hsplit, Nat.zero_add, hlen] at this
  exact this
 have hr : rst l = rst (l.take (8 * r)) ++ rstF (8 * r) (dat (l.take (8 * r))).length (lastK (l.take (8 * r))) (l.drop (8 * r)) := by
  have := rstF_append (l.take (8 * r)) (l.drop (8 * r)) 0 0 []
  rw [← hsplit, Nat.zero_add, Nat.zero_add, hlen] at this
  exact this
 refine ⟨(dat (l.take (8 * r))).length, ?_, ?_, ?_⟩
 ·have hk : (rst (l.take (8 * r))).length = r := by rw [rst_len, hlen]; omega
  rw [hr, List.getElem?_append_right (by omega), hk, Nat.sub_self, List.drop_eq_getElem_cons h, rstF, if_pos (by omega)]
  rfl
 ·rw [hd, List.length_append]; omega
 ·rw [hd, List.drop_left' rfl]
  exact datF_restart _ (by omega) _ _ _
theorem Rise.key {l : List Pr} (h : Rise l) {i j : Nat} (hj : j < l.length) (hij : i < j) : (l[i]'(by omega)).1 < l[j].1 :=
 List.pairwise_iff_getElem.1 h.up i j (by omega) hj hij
end Go.Proofs.YtdbfaknpfepnfaaGreatDoor


namespace Go.Proofs.YtdbfaknpfepnfaaGreatDoor
open Go.RowKit CodecP

theorem Bd.new {w0 w : World} (_hb : Below w0.heap.size w0 w) : Bd (w.alloc (.cells #[.slice none 0 0, .string ⟨#[]⟩, .int .i64 0, .slice none 0 0] 112)) w.heap.size (fun k => k = w.heap.size) [] := by
 refine ⟨Rise.nil, .slice none 0 0, .slice none 0 0, ?_, World.ownsRow_nil _ _ _ _, World.ownsRow_nil _ _ _ _, fun k => ⟨fun h => .inl h, fun h => ?_⟩⟩
 ·show (w.heap.push _)[w.heap.size]? = _
  rw [Array.getElem?_push, if_pos rfl]; rfl
 ·rcases h with h | h | h
  ·exact h
  ·cases h
  ·cases h
structure BOwn (w0 w : World) (p : Nat) (S : Nat → Prop) (ps : List Pr) : Prop where
 bd : Bd w p S ps
 own : ∀ k, S k → w0.heap.size ≤ k
 bel : Below w0.heap.size w0 w
theorem BOwn.add {w0 w w' : World} {p : Nat} {S S' : Nat → Prop} {ps ps' : List Pr} (h : BOwn w0 w p S ps) (hb : Bd w' p S' ps') (hf : Fr S w w') (hs : ∀ k, S' k → S k ∨ w.heap.size ≤ k) : BOwn w0 w' p S' ps' :=
 ⟨hb, fun k hk => by
  rcases hs k hk with h1 | h1
  ·exact h.own k h1
  ·exact Nat.le_trans h.bel.size h1, h.bel.trans (hf.below h.bel.size (fun k _ hk => h.own k hk))⟩
theorem BOwn.below {w0 w w' : World} {p : Nat} {S : Nat → Prop} {ps : List Pr} (h : BOwn w0 w p S ps) (hb : Below w.heap.size w w') : BOwn w0 w' p S ps := ⟨h.bd.below hb, h.own, h.bel.trans (hb.mono h.bel.size)⟩
theorem BOwn.new {w0 w : World} (hb : Below w0.heap.size w0 w) : BOwn w0 (w.alloc (.cells #[.slice none 0 0, .string ⟨#[]⟩, .int .i64 0, .slice none 0 0] 112)) w.heap.size (fun k => k = w.heap.size) [] :=
 ⟨Bd.new hb, fun k hk => by subst hk; exact hb.size, hb.alloc hb.size _⟩
end Go.Proofs.YtdbfaknpfepnfaaGreatDoor


namespace Go.Proofs.YtdbfaknpfepnfaaGreatDoor
open Go.RowKit CodecP

def flatR (ps : List Pr) : List Value := ps.flatMap fun p => [Value.string (str p.1), Value.string (str p.2)]
theorem flatR_length (ps : List Pr) : (flatR ps).length = ps.length * 2 := by
 induction ps with
 | nil => rfl
 | cons p ps ih => simp [flatR] at ih ⊢; omega
theorem flatR_append (a b : List Pr) : flatR (a ++ b) = flatR a ++ flatR b := by simp [flatR]
theorem flatR_get (ps : List Pr) (i : Nat) (h : i < ps.length) : (flatR ps)[i * 2]? = some (.string (str ps[i].1)) ∧ (flatR ps)[i * 2 + 1]? = some (.string (str ps[i].2)) := by
 have h1 : flatR ps = flatR (ps.take i) ++ flatR (ps.drop i) := by rw [← flatR_append, List.take_append_drop]
 have h2 : (flatR (ps.take i)).length = i * 2 := by rw [flatR_length, List.length_take]; omega
 have h3 : ps.drop i = ps[i] :: ps.drop (i + 1) := by rw [List.drop_eq_getElem_cons h]
 rw [h1, h3]
 generalize ps.drop (i + 1) = t
 generalize ps[i] = q
 refine ⟨?_, ?_⟩
 ·rw [List.getElem?_append_right (by omega), h2]; simp [flatR]
 ·rw [List.getElem?_append_right (by omega), h2, show i * 2 + 1 - i * 2 = 1 by omega]; simp [flatR]
structure PrsIn (w : World) (v : Value) (L : List Pr) : Prop where
 ex : ∃ A cap, v = .slice A L.length cap ∧ Sn w w.heap.size 2 A L.length cap (flatR L)
 le : ∀ p ∈ L, p.1.length ≤ maxLen ∧ p.2.length ≤ maxLen
theorem PrsIn.below {w w' : World} {v : Value} {L : List Pr} (h : PrsIn w v L) (hb : Below w.heap.size w w') : PrsIn w' v L := by
 obtain ⟨⟨A, cap, hv, hs⟩, hl⟩ := h
 exact ⟨⟨A, cap, hv, (hs.below hb).more hb.size⟩, hl⟩
theorem PrsIn.cells {w : World} {v : Value} {L : List Pr} (h : PrsIn w v L) {A : Option Addr} {n cap : Nat} (hv : v = .slice A n cap) {i : Nat} (hi : i < L.length) : ∃ b off, A = some ⟨b, off, none⟩ ∧ ∀ W, Below w.heap.size w W → ∀ j, ∀ hj : j < L.length,
  W.cell? ⟨b, off + j * 2, none⟩ = some (.string (str L[j].1)) ∧ W.cell? ⟨b, off + j * 2 + 1, none⟩ = some (.string (str L[j].2)) := by
 obtain ⟨⟨A', cap', hv', hs⟩, -⟩ := h
 rw [hv'] at hv
 injection hv with h1 h2 h3
 subst h1 h2 h3
 obtain ⟨g, o, e, hb, hc⟩ := hs.at_ (by omega)
 refine ⟨g, o, e, fun W hW j hj => ⟨?_, ?_⟩⟩
 ·rw [hW.cell (p := ⟨g, o + j * 2, none⟩) hb]; exact hc _ _ (flatR_get L j hj).1
 ·rw [hW.cell (p := ⟨g, o + j * 2 + 1, none⟩) hb, Nat.add_assoc]; exact hc _ _ (flatR_get L j hj).2
def gsum (L : List Pr) : Nat := (L.map (fun p => min p.1.length 20000 + min p.2.length 20000)).sum
theorem gsum_succ (L : List Pr) (i : Nat) (h : i < L.length) : gsum (L.take (i + 1)) = gsum (L.take i) + (min L[i].1.length 20000 + min L[i].2.length 20000) := by
 unfold gsum
 rw [List.take_succ_eq_append_getElem h, List.map_append, List.sum_append]; simp
theorem gsum_le (L : List Pr) : gsum L ≤ L.length * 40000 := by
 induction L with
 | nil => simp [gsum]
 | cons p L ih => simp [gsum] at ih ⊢; omega
def Grt (L : List Pr) : Prop := 200 < L.length ∨ 40000 < gsum L
theorem great_any (v : Value) (L : List Pr) (w : World) (h : PrsIn w v L) (b : Bool) (hb : b = true ↔ Grt L) :
  Calls Tryz.prog 25 #[v] w fun e w' => e = .returned (.bool b) ∧ Below w.heap.size w w' := by
 have HC := Lib.hid (fun A n cap hv i hi => h.cells (A := A) (n := n) (cap := cap) hv (i := i) hi)
 have HLE := Lib.hid h.le
 obtain ⟨A, cap, hv, hs⟩ := h.ex
 subst hv
 have hcl := hs.le
 have hcm := hs.max
 unfold maxLen at hcm
 have HBR := Lib.hid (Below.refl w.heap.size w)
 have HG := Lib.hid hb
 clear h hs hb
 by_cases h2 : 200 < L.length
 ·have hb1 : b = true := HG.out.2 (.inl h2)
  subst hb1
  have d1 : decide ((200 : Int) < (L.length : Int)) = true := by rw [decide_eq_true_eq]; omega
  go_enter Tryz.func25, Tryz.ntmps25
  go_wp2_with fail
  go_ret
  exact ⟨rfl, HBR.out⟩
 ·have d1 : decide ((200 : Int) < (L.length : Int)) = false := by rw [decide_eq_false_iff_not]; omega
  go_enter Tryz.func25, Tryz.ntmps25
  go_wp2_with fail
  go_loopw [3, 4] (fun nv iv wr => ∃ i : Nat, i ≤ L.length ∧ iv = .int .i64 i ∧ nv = .int .i64 (gsum (L.take i)) ∧ Below w.heap.size w wr) (fun _ iv _ => L.length - (intOf iv).toNat)
  case atStart => exact ⟨0, by omega, rfl, rfl, HBR.out⟩
  case round =>
   obtain ⟨i, hi, rfl, rfl, hbel⟩ := hrel
   have HB := Lib.hid hbel
   clear hbel
   have hgl := gsum_le (L.take i)
   rw [List.length_take] at hgl
   by_cases hlt : i < L.length
   ·obtain ⟨bk, off, rfl, hc⟩ := HC.out _ _ _ rfl i hlt
    obtain ⟨c0, c1⟩ := hc wr HB.out i hlt
    have HGS := Lib.hid (gsum_succ L i hlt)
    have e0 := str_size L[i].1
    have e1 := str_size L[i].2
    have hl := HLE.out L[i] (List.getElem_mem hlt)
    rw [← e0, ← e1] at HGS hl
    obtain ⟨hl0, hl1⟩ := hl
    unfold maxLen at hl0 hl1
    clear hc e0 e1
    generalize str L[i].1 = sk at *
    generalize str L[i].2 = sv at *
    generalize hGG : gsum (L.take i) = G at *
    have gi : (i : Int) < (L.length : Int) := by omega
    have hGl : G ≤ 8000000 := by omega
    clear hgl hGG
    go_wp2_with fail
    go_quiet (fail)
    go_wp2_with fail
    go_roundw
    case rel => exact ⟨i + 1, by omega, by go_num, by rw [HGS.out]; go_num, HB.out.drewN _⟩
    case measure => simp [intOf]; omega
   ·obtain rfl : i = L.length := by omega
    rw [List.take_length]
    have hG := HG.out
    unfold Grt at hG
    have hgl2 := gsum_le L
    generalize gsum L = G at *
    have dg : decide ((40000 : Int) < (G : Int)) = b := by
     cases b with
     | true => have := hG.1 rfl; rw [decide_eq_true_eq]; omega
     | false => rw [decide_eq_false_iff_not]; intro h; have := hG.2 (.inr (by omega)); cases this
    clear hG hgl hgl2
    go_wp2_with fail
    go_ret
    exact ⟨rfl, HB.out⟩
end Go.Proofs.YtdbfaknpfepnfaaGreatDoor


namespace Go.Proofs.YtdbfaknpfepnfaaGreatDoor
open Go.RowKit CodecP

theorem refRight_any (k v : ByteArray) (w : World) (hk : k.size ≤ maxLen) (hv : v.size ≤ maxLen) (b : Bool) (hb : b = true ↔ Okp (bl k, bl v)) :
  Calls Tryz.prog 28 #[.agg #[.string k, .string v]] w fun e w' => e = .returned (.bool b) ∧ Below w.heap.size w w' := by
 unfold Okp at hb
 simp only [bl_size] at hb
 unfold maxLen at hk hv
 have HBR := Lib.hid ((Below.refl w.heap.size w).alloc (Nat.le_refl _) (.cells #[.string k, .string v] 40))
 by_cases h1 : 1 ≤ k.size
 ·have d1 : decide ((1 : Int) ≤ (k.size : Int)) = true := by rw [decide_eq_true_eq]; omega
  by_cases h2 : k.size ≤ 80
  ·have d2 : decide ((k.size : Int) ≤ 80) = true := by rw [decide_eq_true_eq]; omega
   have d3 : decide ((v.size : Int) ≤ 16000) = b := by
    cases b with
    | true => have := hb.1 rfl; rw [decide_eq_true_eq]; omega
    | false => rw [decide_eq_false_iff_not]; intro h; have := hb.2 ⟨h1, h2, by omega⟩; cases this
   clear hb
   go_enter Tryz.func28, Tryz.ntmps28
   go_wp2_with fail
   go_ret
   exact ⟨rfl, HBR.out⟩
  ·have d2 : decide ((k.size : Int) ≤ 80) = false := by rw [decide_eq_false_iff_not]; omega
   have hb1 : b = false := by cases b with
    | true => exact absurd (hb.1 rfl).2.1 h2
    | false => rfl
   subst hb1
   clear hb
   go_enter Tryz.func28, Tryz.ntmps28
   go_wp2_with fail
   go_ret
   exact ⟨rfl, HBR.out⟩
 ·have d1 : decide ((1 : Int) ≤ (k.size : Int)) = false := by rw [decide_eq_false_iff_not]; omega
  have hb1 : b = false := by cases b with
   | true => exact absurd (hb.1 rfl).1 h1
   | false => rfl
  subst hb1
  clear hb
  go_enter Tryz.func28, Tryz.ntmps28
  go_wp2_with fail
  go_ret
  exact ⟨rfl, HBR.out⟩
theorem conv_row {W : World} {B : Nat} {v : Value} {l : List UInt8} (ho : W.ownsRow B 5 1 v l.length (u8s l)) : (convert 94 9 v).run Tryz.prog W = .ok (.string (str l)) W := by
 rcases ho.2 with ⟨rfl, h0⟩ | ⟨gg, cap, cur, rfl, hgg, hh, hcap, hmax, hcs, htk⟩
 ·have : l = [] := List.length_eq_zero_iff.1 h0
  subst this
  exact run_convert_bytes_nil (P := Tryz.prog) (w := W) 94 5 Tryz.underlying94 Tryz.underlying5 0 0 9 Tryz.underlying9
 ·refine run_convert_bytes_back W 94 9 5 ⟨gg, 0, none⟩ cap l Tryz.underlying94 Tryz.underlying5 Tryz.underlying9 (fun j hj => ?_)
  rw [Go.WideShapes.add_plain, Nat.zero_add]
  rw [ho.cellAt j (by omega)]
  unfold u8s
  rw [List.getElem?_map, List.getElem?_eq_getElem hj]; rfl
theorem cmn_comm : ∀ a b : List UInt8, cmn a b = cmn b a
 | [], [] => rfl
 | [], _ :: _ => rfl
 | _ :: _, [] => rfl
 | a :: a1, b :: b1 => by
  unfold cmn
  by_cases h : a = b
  ·rw [if_pos h, if_pos h.symm, cmn_comm a1 b1]
  ·rw [if_neg h, if_neg (fun e => h e.symm)]
end Go.Proofs.YtdbfaknpfepnfaaGreatDoor


