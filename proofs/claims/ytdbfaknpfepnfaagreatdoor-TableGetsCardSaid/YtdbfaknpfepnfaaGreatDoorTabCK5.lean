/-
  Texts of the claim, joined: TailW, BOpenP, BOpW, BFromP, FromW, AllBW, SameBW, WrapC, OpenC, BOpenW, BackBW, TabAgW, TabFinP.
-/
import Derived.Test.YtdbfaknpfepnfaaGreatDoorTabCK4
import Derived.Test.YtdbfaknpfepnfaaGreatDoorTabCK3
import Derived.Test.YtdbfaknpfepnfaaGreatDoorRows
import Derived.ProofKit
import Derived.OpenShut
import Derived.Deep.Slices
import Derived.Deep.Fields
import Derived.ChangeSame
import Derived.Test.YtdbfaknpfepnfaaGreatDoorTabCK1

/-
  The walk of block's tail.
-/
namespace Go.Proofs.YtdbfaknpfepnfaaGreatDoor
open Go.RowKit CodecP

set_option maxRecDepth 100000 in
theorem fixed4_o (p : Nat) (o : Option (List UInt8)) (w : World) (h : RO w p o) :
    Calls Tryz.prog 158 #[(Value.pointer (some ⟨p, 0, none⟩))] w fun e w' => e = .returned (.int .u32 (value (rawS 4 o).1 : Nat)) ∧ RO w' p (rawS 4 o).2 ∧ Fr (RdS p) w w' := by
  obtain ⟨s, bad, h1, rfl⟩ := h
  refine (rdFixed4_any p s bad w h1).mono ?_
  rintro e w' ⟨rfl, h2, h3⟩
  obtain ⟨e1, e2⟩ := rawOut_st s bad 4
  exact ⟨by rw [e1]; simp [str], ⟨_, _, h2, e2⟩, h3⟩
/-- How many restarts a block says. -/
def tailN (l : List UInt8) : Nat := value (l.drop (l.length - 4))
/-- Where they begin. -/
def tailE (l : List UInt8) : Nat := l.length - 4 - 4 * tailN l
/-- The k-th restart. -/
def tailR (l : List UInt8) (k : Nat) : Nat := value ((l.drop (tailE l + 4 * k)).take 4)
def tailOk (l : List UInt8) : Prop := 4 ≤ l.length ∧ tailN l ≤ 4096 ∧ 4 * tailN l ≤ l.length - 4
instance (l : List UInt8) : Decidable (tailOk l) := by unfold tailOk; infer_instance
set_option maxRecDepth 100000 in
theorem tailN_lt (l : List UInt8) : tailN l < 4294967296 := value_lt4 _ (by rw [List.length_drop]; omega)
set_option maxRecDepth 100000 in
theorem tailR_lt (l : List UInt8) (k : Nat) : tailR l k < 4294967296 := value_lt4 _ (List.length_take_le _ _)
set_option maxRecDepth 100000 in
theorem rawS4 (l : List UInt8) (h : 4 ≤ l.length) : rawS 4 (some l) = (l.take 4, some (l.drop 4)) := by
  unfold rawS
  simp only []
  rw [if_neg (by omega)]
  rfl
/-- The restarts, as a call's own slice of numbers. -/
structure TB (w wx : World) (s : ByteArray) (k : Nat) (v : Value) (p : Nat) : Prop where
  own : wx.ownsRow w.heap.size 3 1 v k ((List.range k).map fun j : Nat => Value.int .i64 (tailR (bl s) j))
  rd : RO wx p (some ((bl s).drop (tailE (bl s) + 4 * k)))
  ne : v.ownBlock ≠ some p
  be : Below w.heap.size w wx
set_option maxRecDepth 100000 in
set_option maxHeartbeats 2000000 in
theorem tail_any (s : ByteArray) (w : World) (hs : s.size ≤ 1000000000) :
    Calls Tryz.prog 124 #[.string s] w fun e w' => Below w.heap.size w w' ∧
      ((¬ tailOk (bl s) ∧ e = .returned (.tuple #[.slice none 0 0, .int .i64 0, .bool false])) ∨
       (tailOk (bl s) ∧ ∃ v, e = .returned (.tuple #[v, .int .i64 (tailE (bl s)), .bool true]) ∧ w'.ownsRow w.heap.size 3 1 v (tailN (bl s)) ((List.range (tailN (bl s))).map fun j : Nat => Value.int .i64 (tailR (bl s) j)))) := by
  have HRD := Lib.hid read_o
  have HF4 := Lib.hid fixed4_o
  have hN := tailN_lt (bl s)
  have eb := bl_size s
  by_cases h4 : s.size < 4
  · have d1 : decide ((s.size : Int) < 4) = true := by rw [decide_eq_true_eq]; omega
    have hno : ¬ tailOk (bl s) := by unfold tailOk; omega
    have HNO := Lib.hid hno
    clear hno
    go_enter Tryz.func124, Tryz.ntmps124
    go_wp2_with fail
    exact bodyPost_ret (v := .tuple #[.slice none 0 0, .int .i64 0, .bool false]) (by simp [results, Tryz.results124, go_sem]) rfl ⟨Below.refl _ _, .inl ⟨HNO.out, rfl⟩⟩
  · have d1 : decide ((s.size : Int) < 4) = false := by rw [decide_eq_false_iff_not]; omega
    have ex : s.extract (s.size - 4) s.size = str ((bl s).drop (s.size - 4)) := by
      rw [← str_bl (s.extract _ _), ext_bl, List.take_of_length_le (by rw [List.length_drop, eb]; exact Nat.le_refl _)]
    have HEX := Lib.hid ex
    clear ex
    go_enter Tryz.func124, Tryz.ntmps124
    go_wp2_with fail
    rw [HEX.out]
    (with_reducible refine (HRD.out _ _ ?_).mono ?_)
    · rw [← HEX.out, ByteArray.size_extract]; unfold maxLen; omega
    rintro e w1 ⟨rfl, h1, hf1⟩
    rw [bl_str] at h1
    have H1 := Lib.hid h1
    have HF1 := Lib.hid hf1
    clear h1 hf1
    go_wp2_with fail
    (with_reducible refine (HF4.out _ _ _ H1.out).mono ?_)
    rintro e w2 ⟨rfl, -, hf2⟩
    have hr : value (rawS 4 (some ((bl s).drop (s.size - 4)))).1 = tailN (bl s) := by
      rw [rawS4 _ (by rw [List.length_drop]; omega)]
      simp only []
      rw [List.take_of_length_le (by rw [List.length_drop]; omega)]
      unfold tailN
      rw [eb]
    rw [hr]
    have HB2 : Hid (Below w.heap.size w w2) := Lib.hid (HF1.out.trans (hf2.below HF1.out.size (fun k _ hk => by unfold RdS at hk; omega)))
    clear hf2 hr
    by_cases hok : tailOk (bl s)
    · have HOK := Lib.hid hok
      obtain ⟨-, hk1, hk2⟩ := hok
      have hE : ((s.size : Int) - 4 - 4 * (tailN (bl s) : Int)) = (tailE (bl s) : Int) := by unfold tailE; omega
      have hE2 : s.size - 4 - 4 * tailN (bl s) = tailE (bl s) := by unfold tailE; omega
      have d2 : decide ((4096 : Int) < (tailN (bl s) : Int)) = false := by rw [decide_eq_false_iff_not]; omega
      have d3 : decide ((s.size : Int) - 4 - 4 * (tailN (bl s) : Int) < 0) = false := by rw [decide_eq_false_iff_not]; omega
      have ex : s.extract (s.size - 4 - 4 * tailN (bl s)) s.size = str ((bl s).drop (tailE (bl s))) := by
        rw [← str_bl (s.extract _ _), ext_bl, List.take_of_length_le (by rw [List.length_drop, eb]; exact Nat.le_refl _), hE2]
      have HE := Lib.hid hE
      have HEX2 := Lib.hid ex
      have hNE : tailE (bl s) + 4 * tailN (bl s) + 4 = s.size := by omega
      clear hE hE2 ex
      go_wp2_with fail
      rw [HEX2.out]
      (with_reducible refine (HRD.out _ _ ?_).mono ?_)
      · rw [← HEX2.out, ByteArray.size_extract]; unfold maxLen; omega
      rintro e w3 ⟨rfl, h3, hf3⟩
      rw [bl_str] at h3
      have hp : w.heap.size ≤ w2.heap.size := HB2.out.size
      have HB3 : Hid (Below w.heap.size w w3) := Lib.hid (HB2.out.trans (hf3.mono hp))
      have HP := Lib.hid hp
      have H3 := Lib.hid h3
      clear h3 hf3 hp
      generalize w2.heap.size = p at *
      obtain ⟨i0, hi, hz0, hz1, hz2⟩ := info_parts info_int8
      go_wp2_with fail
      go_loopg [8, 37] (tailN (bl s)) (fun g lv iv wr => ∃ k : Nat, k + g = tailN (bl s) ∧ iv = .int .i64 k ∧ TB w wr s k lv p)
      case atStart => exact ⟨0, by omega, rfl, World.ownsRow_nil _ _ _ _, by simpa using H3.out, by simp [Value.ownBlock], HB3.out⟩
      case round =>
        obtain ⟨k, hkg, rfl, hT⟩ := hrel
        obtain ⟨ao, cp, hv⟩ := own_form hT.own
        subst hv
        have HT := Lib.hid hT
        clear hT
        by_cases hlt : k < tailN (bl s)
        · have gk : decide ((k : Int) < (tailN (bl s) : Int)) = true := by rw [decide_eq_true_eq]; omega
          have hlen : 4 ≤ ((bl s).drop (tailE (bl s) + 4 * k)).length := by rw [List.length_drop]; omega
          have hv := tailR_lt (bl s) k
          go_wp2_with fail
          (with_reducible refine (HF4.out _ _ _ HT.out.rd).mono ?_)
          rintro e w4 ⟨rfl, h4, hf4⟩
          have hr : value (rawS 4 (some ((bl s).drop (tailE (bl s) + 4 * k)))).1 = tailR (bl s) k := by
            rw [rawS4 _ hlen]; rfl
          rw [hr]
          rw [rawS4 _ hlen] at h4
          simp only [] at h4
          rw [List.drop_drop] at h4
          have ho4 := owns_of_block HT.out.own (fun j hj => hf4.block j (HT.out.own.lt j hj).2 (fun e => HT.out.ne (by unfold RdS at e; rw [hj, e])))
          have hb4 : Below w.heap.size w w4 := HT.out.be.trans (hf4.below HT.out.be.size (fun j _ hj => by have := HP.out; unfold RdS at hj; omega))
          have HO4 := Lib.hid ho4
          have HB4 := Lib.hid hb4
          have H4 := Lib.hid h4
          clear h4 hf4 hr hlen ho4 hb4
          generalize hx : tailR (bl s) k = x at *
          have HX := Lib.hid hx
          clear hx
          go_wp2_with (at_builtin; refine wpList_append_own_at _ rfl _ _ 107 rfl w.heap.size 3 i0 (.int .i64 0) 1 8 Tryz.underlying107 hi hz0 hz1 hz2 rfl (by decide) _ _ _ rfl (HO4.out.alloc _) ⟨w4.heap.size, 0, none⟩ 1 1 [.int .i64 x] rfl rfl (fun j y hj => by match j, hj with | 0, hj => (simp at hj; subst hj; simp [Addr.add])) (fun y hy => by simp at hy; subst hy; rfl) (by unfold maxLen; omega) (by omega) (by have := HB4.out.size; simp; omega) ?_; intro v' w5 hown' hgrow hatt1 hatt2)
          have hsz4 := HB4.out.size
          have hfr : Fr (fun j => (Value.slice ao k cp).ownBlock = some j) w4 w5 := ((Fr.refl _ w4).alloc _).grown hgrow (fun _ _ h => h)
          have hT5 : TB w w5 s (k + 1) v' p := by
            refine ⟨?_, ?_, ?_, ?_⟩
            · rw [List.range_succ, List.map_append, List.map_singleton, HX.out]; exact hown'
            · have := H4.out.keep hfr HT.out.ne
              rw [show tailE (bl s) + 4 * (k + 1) = tailE (bl s) + 4 * k + 4 by omega]
              exact this
            · rcases hatt2 with e | e
              · rw [e]; exact HT.out.ne
              · rw [e]
                have := H4.out.lt
                intro e2
                simp at e2
                omega
            · exact (HB4.out.alloc hsz4 _).grown hgrow (by simp; omega) (fun j hj => (HO4.out.lt j hj).1)
          have HT5 := Lib.hid hT5
          clear hown' hgrow hatt1 hatt2 hfr hT5
          go_roundg (tailN (bl s) - (k + 1))
          case measure => omega
          case rel => exact ⟨k + 1, by omega, by go_num, HT5.out⟩
        · obtain rfl : k = tailN (bl s) := by omega
          go_wp2_with fail
          exact bodyPost_ret (v := .tuple #[.slice ao (tailN (bl s)) cp, .int .i64 ((s.size : Int) - 4 - 4 * (tailN (bl s) : Int)), .bool true]) (by simp [results, Tryz.results124, go_sem]) rfl ⟨HT.out.be, .inr ⟨HOK.out, _, by rw [HE.out], HT.out.own⟩⟩
    · have hno : 4096 < tailN (bl s) ∨ ((s.size : Int) - 4 - 4 * (tailN (bl s) : Int) < 0) := by
        unfold tailOk at hok; omega
      have HNO := Lib.hid hok
      clear hok
      by_cases q : 4096 < tailN (bl s)
      · have d2 : decide ((4096 : Int) < (tailN (bl s) : Int)) = true := by rw [decide_eq_true_eq]; omega
        go_wp2_with fail
        exact bodyPost_ret (v := .tuple #[.slice none 0 0, .int .i64 0, .bool false]) (by simp [results, Tryz.results124, go_sem]) rfl ⟨HB2.out, .inl ⟨HNO.out, rfl⟩⟩
      · have d2 : decide ((4096 : Int) < (tailN (bl s) : Int)) = false := by rw [decide_eq_false_iff_not]; omega
        have d3 : decide ((s.size : Int) - 4 - 4 * (tailN (bl s) : Int) < 0) = true := by rw [decide_eq_true_eq]; omega
        clear hno
        go_wp2_with fail
        exact bodyPost_ret (v := .tuple #[.slice none 0 0, .int .i64 0, .bool false]) (by simp [results, Tryz.results124, go_sem]) rfl ⟨HB2.out, .inl ⟨HNO.out, rfl⟩⟩
end Go.Proofs.YtdbfaknpfepnfaaGreatDoor

/-
  Plain: bytes that are a block.
-/
namespace Go.Proofs.YtdbfaknpfepnfaaGreatDoor
open CodecP

set_option maxRecDepth 100000 in
theorem four_split : ∀ (n : Nat) (m : List UInt8), m.length = 4 * n → ((List.range n).map fun k => value ((m.drop (4 * k)).take 4)).flatMap (fixed 4) = m
  | 0, m, h => by rw [List.length_eq_zero_iff.1 (by omega : m.length = 0)]; rfl
  | n + 1, m, h => by
    have e := four_split n (m.drop 4) (by rw [List.length_drop]; omega)
    rw [List.range_succ_eq_map, List.map_cons, List.flatMap_cons, List.map_map]
    have h4 : (m.take 4).length = 4 := by rw [List.length_take]; omega
    have e1 : fixed 4 (value ((m.drop (4 * 0)).take 4)) = m.take 4 := by
      rw [Nat.mul_zero, List.drop_zero]
      have := fixed_value (m.take 4)
      rw [h4] at this
      exact this
    rw [e1]
    have e2 : ((fun k => value ((m.drop (4 * k)).take 4)) ∘ Nat.succ) = fun k => value (((m.drop 4).drop (4 * k)).take 4) := by
      funext k
      simp only [Function.comp]
      rw [List.drop_drop, show 4 * k.succ = 4 + 4 * k by omega]
    rw [e2, e, List.take_append_drop]
set_option maxRecDepth 100000 in
/-- What tail read is what stands there. -/
theorem tail_split (l : List UInt8) (h : tailOk l) : l = l.take (tailE l) ++ ((List.range (tailN l)).map (tailR l)).flatMap (fixed 4) ++ fixed 4 (tailN l) := by
  obtain ⟨h1, h2, h3⟩ := h
  have hE : tailE l + 4 * tailN l + 4 = l.length := by unfold tailE; omega
  have e1 : fixed 4 (tailN l) = l.drop (l.length - 4) := by
    have := fixed_value (l.drop (l.length - 4))
    rw [show (l.drop (l.length - 4)).length = 4 by rw [List.length_drop]; omega] at this
    exact this
  have e2 := four_split (tailN l) ((l.drop (tailE l)).take (4 * tailN l)) (by rw [List.length_take, List.length_drop]; omega)
  have e3 : ((List.range (tailN l)).map fun k => value ((((l.drop (tailE l)).take (4 * tailN l)).drop (4 * k)).take 4)) = (List.range (tailN l)).map (tailR l) := by
    apply List.map_congr_left
    intro k hk
    rw [List.mem_range] at hk
    unfold tailR
    rw [List.drop_take, List.take_take, List.drop_drop, show min 4 (4 * tailN l - 4 * k) = 4 by omega]
  rw [e3] at e2
  rw [e2, e1, List.append_assoc]
  rw [show l.drop (l.length - 4) = (l.drop (tailE l)).drop (4 * tailN l) by rw [List.drop_drop]; congr 1; omega]
  rw [List.take_append_drop, List.take_append_drop]
set_option maxRecDepth 100000 in
theorem fm_get : ∀ (rs : List Nat) (t : List UInt8) (k : Nat) (h : k < rs.length), ((rs.flatMap (fixed 4) ++ t).drop (4 * k)).take 4 = fixed 4 rs[k]
  | a :: rs, t, 0, _ => by
    rw [List.flatMap_cons, Nat.mul_zero, List.drop_zero, List.append_assoc, List.take_left' (fixed_length 4 a)]
    rfl
  | a :: rs, t, k + 1, h => by
    rw [List.flatMap_cons, List.append_assoc, show 4 * (k + 1) = 4 + 4 * k by omega, ← List.drop_drop, List.drop_left' (fixed_length 4 a), fm_get rs t k (by simpa using h)]
    rfl
set_option maxRecDepth 100000 in
/-- The tail of a block that was laid. -/
theorem blk_tail (ps : List Pr) (h : Rise ps) : tailOk (blk ps) ∧ tailN (blk ps) = (rst ps).length ∧ tailE (blk ps) = (dat ps).length ∧ (List.range (tailN (blk ps))).map (tailR (blk ps)) = rst ps := by
  have hl := blk_len ps
  have hr := rst_len ps
  have hn := h.le
  have hd := dat_len h.ok
  have hm : ((rst ps).flatMap (fixed 4)).length = 4 * (rst ps).length := by
    have : (blk ps).length = ((dat ps).length + ((rst ps).flatMap (fixed 4)).length) + 4 := by
      unfold blk; rw [List.length_append, List.length_append, fixed_length]
    omega
  have hN : tailN (blk ps) = (rst ps).length := by
    unfold tailN
    rw [hl]
    unfold blk
    rw [List.drop_left' (by rw [List.length_append]; omega), value_fixed _ _ (by omega)]
  have hE : tailE (blk ps) = (dat ps).length := by unfold tailE; omega
  refine ⟨⟨by omega, by omega, by omega⟩, hN, hE, ?_⟩
  rw [hN]
  apply List.ext_getElem (by simp)
  intro k h1 h2
  rw [List.getElem_map, List.getElem_range]
  unfold tailR
  rw [hE, ← List.drop_drop]
  have e : (blk ps).drop (dat ps).length = (rst ps).flatMap (fixed 4) ++ fixed 4 (rst ps).length := by
    unfold blk
    rw [List.append_assoc, List.drop_left' rfl]
  rw [e, fm_get _ _ _ h2, value_fixed _ _ (by have := rst_le ps _ (List.getElem_mem h2); omega)]
set_option maxRecDepth 100000 in
/-- Bytes whose tail and pairs are a list's are its block. -/
theorem blk_of (l : List UInt8) (ps : List Pr) (h : tailOk l) (hd : l.take (tailE l) = dat ps) (hr : (List.range (tailN l)).map (tailR l) = rst ps) : l = blk ps := by
  have hs := tail_split l h
  rw [hd, hr] at hs
  rw [hs]
  unfold blk
  rw [← hr, List.length_map, List.length_range]
set_option maxRecDepth 100000 in
theorem Rise.part {ps r : List Pr} (h : Rise (ps ++ r)) : Rise ps :=
  ⟨fun q hq => h.ok q (by simp [hq]), (List.pairwise_append.1 h.up).1, by have := h.le; rw [List.length_append] at this; omega⟩
/-- Open's loop: these pairs are taken, this is to come. -/
structure InvO (l : List UInt8) (ps : List Pr) (rest : List UInt8) : Prop where
  rise : Rise ps
  data : l.take (tailE l) = dat ps ++ rest
  rs_ : rst ps = ((List.range (tailN l)).map (tailR l)).take (rst ps).length
  pre : ∀ Ps, Rise Ps → l = blk Ps → ∃ r, Ps = ps ++ r
set_option maxRecDepth 100000 in
theorem InvO.start (l : List UInt8) : InvO l [] (l.take (tailE l)) := ⟨Rise.nil, rfl, rfl, fun Ps _ _ => ⟨Ps, rfl⟩⟩
set_option maxRecDepth 100000 in
/-- The next pair of a block. -/
theorem InvO.step {l : List UInt8} {ps : List Pr} {rest : List UInt8} (h : InvO l ps rest) (hne : rest ≠ []) {Ps : List Pr} (hP : Rise Ps) (e : l = blk Ps) :
    ∃ p r, Ps = ps ++ p :: r ∧ stepF (lastK ps) (some rest) = some (p, sameOf ps.length (lastK ps) p.1, datF (ps.length + 1) p.1 r) ∧ Okp p ∧ lastK ps < p.1 ∧ ps.length < 4096 ∧ (ps.length % 8 = 0 → ps.length / 8 < tailN l ∧ tailR l (ps.length / 8) = (dat ps).length) := by
  obtain ⟨r, hr⟩ := h.pre Ps hP e
  obtain ⟨t1, t2, t3, t4⟩ := blk_tail Ps hP
  rw [← e] at t1 t2 t3 t4
  have hd := h.data
  have he : l.take (tailE l) = dat Ps := by
    rw [t3, e]; unfold blk; rw [List.append_assoc, List.take_left' rfl]
  rw [he, hr] at hd
  have hd2 : datF ps.length (lastK ps) r = rest := by
    unfold dat at hd
    rw [datF_append, Nat.zero_add] at hd
    exact List.append_cancel_left hd
  cases r with
  | nil => exact absurd hd2.symm hne
  | cons p r =>
    have hP2 : Rise (ps ++ [p]) := by
      rw [hr, show ps ++ p :: r = (ps ++ [p]) ++ r by simp] at hP
      exact hP.part
    obtain ⟨-, hok, hlt, hn⟩ := hP2.init
    have hs := sameOf_le ps.length (lastK ps) p.1
    have hl : (lastK ps).length ≤ 1000000 := by
      rcases List.eq_nil_or_concat ps with e | ⟨q, z, e⟩
      · rw [e]; exact Nat.zero_le _
      · rw [e, List.concat_eq_append, lastK_snoc]
        have := (h.rise.ok z (by rw [e]; simp)).2.1
        omega
    have ht : p.1.take (sameOf ps.length (lastK ps) p.1) = (lastK ps).take (sameOf ps.length (lastK ps) p.1) := by
      unfold sameOf
      split
      · rfl
      · exact (cmn_take _ _).symm
    refine ⟨p, r, hr, ?_, hok, hlt, hn, fun h8 => ?_⟩
    · rw [← hd2, datF]
      exact stepF_ent _ _ _ _ hs.1 ht hl (by have := hok.2.1; omega) hok.2.2
    · have hrl := rst_len ps
      have hrs := rst_snoc ps p
      rw [if_pos h8] at hrs
      have hrp : ∃ t, rst Ps = (rst ps ++ [(dat ps).length]) ++ t := by
        rw [hr, show ps ++ p :: r = (ps ++ [p]) ++ r by simp, ← hrs]
        unfold rst
        rw [rstF_append]
        exact ⟨_, rfl⟩
      obtain ⟨t, ht⟩ := hrp
      have hk : (rst ps).length = ps.length / 8 := by omega
      have hlen : ps.length / 8 < (rst Ps).length := by rw [ht]; simp; omega
      refine ⟨by omega, ?_⟩
      have g : (rst Ps)[ps.length / 8]? = some (dat ps).length := by
        rw [ht, List.append_assoc, ← hk, List.getElem?_append_right (Nat.le_refl _)]; simp
      rw [← t4, List.getElem?_map, List.getElem?_range (by omega)] at g
      simpa using g
set_option maxRecDepth 100000 in
/-- A pair more. -/
theorem InvO.next {l : List UInt8} {ps : List Pr} {rest rest2 : List UInt8} {p : Pr} {same : Nat} (h : InvO l ps rest) (hne : rest ≠ []) (hx : stepF (lastK ps) (some rest) = some (p, same, rest2)) (hok : Okp p) (hlt : lastK ps < p.1) (hn : ps.length < 4096)
    (h8 : ps.length % 8 = 0 → ps.length / 8 < tailN l ∧ tailR l (ps.length / 8) = (dat ps).length ∧ same = 0) (h9 : ps.length % 8 ≠ 0 → same = cmn (lastK ps) p.1) : InvO l (ps ++ [p]) rest2 := by
  have hsame : same = sameOf ps.length (lastK ps) p.1 := by
    unfold sameOf
    split
    · rename_i e; exact (h8 e).2.2
    · rename_i e; exact h9 e
  obtain ⟨e1, -⟩ := ent_stepF hx
  simp only [Option.some.injEq] at e1
  refine ⟨h.rise.snoc hok hlt hn, ?_, ?_, fun Ps hP e => ?_⟩
  · rw [h.data, e1, dat_snoc, hsame, List.append_assoc]
  · rw [rst_snoc]
    split
    · rename_i e
      obtain ⟨q1, q2, -⟩ := h8 e
      have hrl := rst_len ps
      have hk : (rst ps).length = ps.length / 8 := by omega
      rw [List.length_append, List.length_singleton, List.take_succ_eq_append_getElem (by simp; omega), ← h.rs_, List.getElem_map, List.getElem_range, hk, q2]
    · rw [List.append_nil]; exact h.rs_
  · obtain ⟨p2, r, a1, a2, -⟩ := h.step hne hP e
    rw [hx] at a2
    simp only [Option.some.injEq, Prod.mk.injEq] at a2
    exact ⟨r, by rw [a1, a2.1]; simp⟩
set_option maxRecDepth 100000 in
/-- All is taken: these are the block's pairs. -/
theorem InvO.done {l : List UInt8} {ps : List Pr} (h : InvO l ps []) (ht : tailOk l) (hn : tailN l = (ps.length + 7) / 8) : l = blk ps := by
  refine blk_of l ps ht (by rw [h.data, List.append_nil]) ?_
  rw [h.rs_, List.take_of_length_le]
  rw [List.length_map, List.length_range, rst_len, hn]
  exact Nat.le_refl _
set_option maxRecDepth 100000 in
theorem InvO.no {l : List UInt8} {ps : List Pr} (h : InvO l ps []) (hn : tailN l ≠ (ps.length + 7) / 8) {Ps : List Pr} (hP : Rise Ps) (e : l = blk Ps) : False := by
  obtain ⟨r, hr⟩ := h.pre Ps hP e
  obtain ⟨t1, t2, t3, t4⟩ := blk_tail Ps hP
  rw [← e] at t1 t2 t3 t4
  have hd := h.data
  have he : l.take (tailE l) = dat Ps := by
    rw [t3, e]; unfold blk; rw [List.append_assoc, List.take_left' rfl]
  rw [he, hr] at hd
  have hd2 : datF ps.length (lastK ps) r = [] := by
    unfold dat at hd
    rw [datF_append, Nat.zero_add] at hd
    exact List.append_cancel_left hd
  cases r with
  | nil =>
    rw [List.append_nil] at hr
    subst hr
    exact hn (by rw [t2, rst_len])
  | cons p r =>
    have h1 := congrArg List.length hd2
    rw [datF, List.length_append] at h1
    have h2 : 1 ≤ p.1.length := (hP.ok p (by rw [hr]; simp)).1
    have h3 : 0 < (ent (sameOf ps.length (lastK ps) p.1) p).length := by
      unfold ent
      simp only [List.length_append]
      have := grp_pos (sameOf ps.length (lastK ps) p.1)
      omega
    rw [List.length_nil] at h1
    omega
end Go.Proofs.YtdbfaknpfepnfaaGreatDoor

/-
  The walk of block's Open.
-/
namespace Go.Proofs.YtdbfaknpfepnfaaGreatDoor
open Go.RowKit CodecP

/-- A block at p of the pairs l, its restarts v. -/
structure Bk (w : World) (B p : Nat) (v : Value) (l : List Pr) : Prop where
  cells : w.heap[p]? = some (.cells #[.string (str (dat l)), v, .int .i64 l.length] 179 (0, 0))
  row : w.ownsRow B 3 1 v (rst l).length ((rst l).map fun n : Nat => Value.int .i64 n)
  rise : Rise l
  at_ : B ≤ p
set_option maxRecDepth 100000 in
set_option maxHeartbeats 2000000 in
theorem open_any (s : ByteArray) (w : World) (hs : s.size ≤ 100000000) :
    Calls Tryz.prog 86 #[.string s] w fun e w' => Below w.heap.size w w' ∧
      ((e = .returned (.tuple #[.pointer none, .int .i64 3]) ∧ ∀ Ps, Rise Ps → bl s ≠ blk Ps) ∨
       (∃ ps p v, bl s = blk ps ∧ e = .returned (.tuple #[(Value.pointer (some ⟨p, 0, none⟩)), .int .i64 0]) ∧ Bk w' w.heap.size p v ps)) := by
  have HTL := Lib.hid (tail_any s w (by omega))
  have HRD := Lib.hid read_o
  have HST := Lib.hid step_any
  have HGD := Lib.hid good_o
  have HLS : Hid (∀ (p : Nat) (l : List UInt8) (w : World), RO w p (some l) → Calls Tryz.prog 125 #[(Value.pointer (some ⟨p, 0, none⟩))] w fun e w' => e = .returned (.int .i64 (l.length : Nat)) ∧ w = w') := Lib.hid fun p l w h => left_o p (some l) w h
  have HEN := Lib.hid end_o
  have eb := bl_size s
  go_enter Tryz.func86, Tryz.ntmps86
  go_wp2_with fail
  (with_reducible refine HTL.out.mono ?_)
  rintro e w1 ⟨hb1, ⟨hno, rfl⟩ | ⟨hok, v, rfl, hrow⟩⟩
  · have HB1 := Lib.hid hb1
    have HNO := Lib.hid hno
    clear hb1 hno
    go_wp2_with fail
    exact bodyPost_ret (v := .tuple #[.pointer none, .int .i64 3]) (by simp [results, Tryz.results86, go_sem]) rfl ⟨HB1.out, .inl ⟨rfl, fun Ps hP e => HNO.out (by rw [e]; exact (blk_tail Ps hP).1)⟩⟩
  · obtain ⟨ao, cp, hv⟩ := own_form hrow
    subst hv
    have HB1 := Lib.hid hb1
    have HOK := Lib.hid hok
    have HROW := Lib.hid hrow
    have hle : tailE (bl s) ≤ s.size := by unfold tailE; omega
    have ex : s.extract 0 (tailE (bl s)) = str ((bl s).take (tailE (bl s))) := by
      rw [← str_bl (s.extract _ _), ext_bl, List.drop_zero, Nat.sub_zero]
    have HEX := Lib.hid ex
    clear hb1 hok hrow ex
    go_wp2_with fail
    rw [HEX.out]
    (with_reducible refine (HRD.out _ _ ?_).mono ?_)
    · rw [← HEX.out, ByteArray.size_extract]; unfold maxLen; omega
    rintro e w2 ⟨rfl, h2, hf2⟩
    rw [bl_str] at h2
    have hsz1 := HB1.out.size
    rw [show ∀ o, (w1.alloc o).heap.size = w1.heap.size + 1 from fun o => by simp] at h2 hf2 ⊢
    have hc2 : w2.heap[w1.heap.size]? = some (.cells #[.string (str ((bl s).take (tailE (bl s)))), .slice ao (tailN (bl s)) cp, .int .i64 0] 179 (0, 0)) := by
      rw [hf2.block _ (Nat.lt_succ_self _)]
      show (w1.heap.push _)[w1.heap.size]? = _
      simp
    have hb2 : Below w1.heap.size w1 w2 := ((Below.refl w1.heap.size w1).alloc (Nat.le_refl _) _).trans (hf2.mono (Nat.le_succ _))
    have H2 := Lib.hid h2
    have HC2 := Lib.hid hc2
    have HB2 := Lib.hid hb2
    clear h2 hf2 hc2 hb2
    go_wp2_with fail
    go_loopg [9] (tailE (bl s)) (fun g lv wr => ∃ (ps : List Pr) (rest : List UInt8), rest.length = g ∧ lv = .string (str (lastK ps)) ∧ InvO (bl s) ps rest ∧ RO wr (w1.heap.size + 1) (some rest) ∧
      wr.heap[w1.heap.size]? = some (.cells #[.string (str ((bl s).take (tailE (bl s)))), .slice ao (tailN (bl s)) cp, .int .i64 ps.length] 179 (0, 0)) ∧ Below w1.heap.size w1 wr)
    case atStart => exact ⟨[], _, by rw [List.length_take, eb]; omega, rfl, InvO.start _, H2.out, HC2.out, HB2.out⟩
    case round =>
      obtain ⟨ps, rest, hg, rfl, hI, hR, hC, hB⟩ := hrel
      have HI := Lib.hid hI
      have HR := Lib.hid hR
      have HC := Lib.hid hC
      have HB := Lib.hid hB
      have cb := cellOf2 (o := 2) hC rfl
      have hpl := hI.rise.le
      clear hI hR hC hB
      by_cases hr0 : rest = []
      · have d0 : decide ((0 : Int) < (rest.length : Int)) = false := by rw [decide_eq_false_iff_not, hr0]; decide
        go_wp2_with fail
        (with_reducible refine (HLS.out _ _ _ HR.out).mono ?_)
        rintro e w4 ⟨rfl, rfl⟩
        go_wp2_with fail
        subst hr0
        (with_reducible refine (HEN.out _ _ _ HR.out).mono ?_)
        rintro e w4 ⟨rfl, rfl⟩
        rw [show decide (some ([] : List UInt8) = some []) = true from decide_eq_true rfl]
        by_cases hn : tailN (bl s) = (ps.length + 7) / 8
        · have d1 : ((tailN (bl s) : Int) != ((ps.length : Int) + 8 - 1) / 8) = false := by rw [bne_eq_false_iff_eq]; omega
          go_wp2_with fail
          have hrs : (List.range (tailN (bl s))).map (tailR (bl s)) = rst ps := by
            rw [HI.out.rs_, List.take_of_length_le]
            rw [List.length_map, List.length_range, rst_len, hn]
            exact Nat.le_refl _
          have hrow : wr.ownsRow w.heap.size 3 1 (.slice ao (tailN (bl s)) cp) (rst ps).length ((rst ps).map fun n : Nat => Value.int .i64 n) := by
            have h := owns_of_block HROW.out (fun j hj => HB.out.block j (HROW.out.lt j hj).2)
            rw [← hrs, List.length_map, List.length_range, List.map_map]
            exact h
          have hcell := HC.out
          rw [HI.out.data, List.append_nil] at hcell
          exact bodyPost_ret (v := .tuple #[(Value.pointer (some ⟨w1.heap.size, 0, none⟩)), .int .i64 0]) (by simp [results, Tryz.results86, go_sem]) rfl ⟨HB1.out.trans (HB.out.mono hsz1), .inr ⟨ps, _, _, HI.out.done HOK.out hn, rfl, hcell, hrow, HI.out.rise, hsz1⟩⟩
        · have d1 : ((tailN (bl s) : Int) != ((ps.length : Int) + 8 - 1) / 8) = true := by rw [bne_iff_ne]; omega
          go_wp2_with fail
          exact bodyPost_ret (v := .tuple #[.pointer none, .int .i64 3]) (by simp [results, Tryz.results86, go_sem]) rfl ⟨HB1.out.trans (HB.out.mono hsz1), .inl ⟨rfl, fun Ps hP e => HI.out.no hn hP e⟩⟩
      · have hpos : 0 < rest.length := List.length_pos_iff.2 hr0
        have d0 : decide ((0 : Int) < (rest.length : Int)) = true := by rw [decide_eq_true_eq]; omega
        have hdl : tailE (bl s) = (dat ps).length + rest.length := by
          have := congrArg List.length HI.out.data
          rw [List.length_take, List.length_append, eb] at this
          omega
        have hat : ((tailE (bl s) : Int) - (rest.length : Int)) = ((dat ps).length : Int) := by omega
        clear hdl
        have hlk : (str (lastK ps)).size ≤ 1000000 := by
          rw [show (str (lastK ps)).size = (lastK ps).length by simp [str, ByteArray.size]]
          rcases List.eq_nil_or_concat ps with e | ⟨q, z, e⟩
          · rw [e]; exact Nat.zero_le _
          · rw [e, List.concat_eq_append, lastK_snoc]
            have := (HI.out.rise.ok z (by rw [e]; simp)).2.1
            omega
        have hx : ∃ X, X = stepF (lastK ps) (some rest) := ⟨_, rfl⟩
        obtain ⟨X, hX⟩ := hx
        have HX := Lib.hid hX
        have HSS := Lib.hid (HST.out (w1.heap.size + 1) (str (lastK ps)) (some rest) wr HR.out hlk)
        rw [bl_str, ← HX.out] at HSS
        clear hX
        go_wp2_with fail
        (with_reducible refine (HLS.out _ _ _ HR.out).mono ?_)
        rintro e w4 ⟨rfl, rfl⟩
        go_wp2_with fail
        (with_reducible refine (HLS.out _ _ _ HR.out).mono ?_)
        rintro e w4 ⟨rfl, rfl⟩
        go_wp2_with fail
        (with_reducible refine HSS.out.mono ?_)
        rintro e w4 ⟨rfl, h4, hf4⟩
        have hC4 : w4.heap[w1.heap.size]? = _ := (hf4.block _ (lt_of_block HC.out) (fun e => by unfold RdS at e; omega)).trans HC.out
        have H4 := Lib.hid h4
        have HC4 := Lib.hid hC4
        have cb4 := cellOf2 (o := 2) hC4 rfl
        have HB4 : Hid (Below w1.heap.size w1 w4) := Lib.hid (HB.out.trans (hf4.below HB.out.size (fun k _ hk => by unfold RdS at hk; omega)))
        clear h4 hf4 hC4
        have hp5 : (w4.alloc (.cells #[.string (str (prO X).1), .string (str (prO X).2)] 43)).heap[w4.heap.size]? = some (.cells #[.string (str (prO X).1), .string (str (prO X).2)] 43 (0, 0)) := by
          show (w4.heap.push _)[w4.heap.size]? = _
          simp
        have h5 : Fr (fun _ => False) w4 (w4.alloc (.cells #[.string (str (prO X).1), .string (str (prO X).2)] 43)) := (Fr.refl _ w4).alloc _
        have H5 := Lib.hid (H4.out.keep h5 (fun h => h))
        have hc5 := (h5.block w1.heap.size (lt_of_block HC4.out) (fun h => h)).trans HC4.out
        have HC5 := Lib.hid hc5
        have HP5 := Lib.hid hp5
        have HB5 := Lib.hid (HB4.out.trans (h5.below HB4.out.size (fun _ _ h => h.elim)))
        clear hp5 h5 hc5
        go_upto_region 10 with (fail)
        generalize w4.alloc (.cells #[.string (str (prO X).1), .string (str (prO X).2)] 43) = w5 at *
        have cb5 := cellOf2 (o := 2) HC5.out rfl
        have f2 := free_of2 2 HC5.out
        have k0 := cellOf2 (o := 0) HP5.out rfl
        have k1 := cellOf2 (o := 1) HP5.out rfl
        by_cases h8 : ps.length % 8 = 0
        · have d8 : (((ps.length : Int) % 8) == 0) = true := by rw [beq_iff_eq]; omega
          by_cases q1 : ps.length / 8 < tailN (bl s)
          · have d1 : decide ((tailN (bl s) : Int) ≤ (ps.length : Int) / 8) = false := by rw [decide_eq_false_iff_not]; omega
            have hrow5 := owns_of_block HROW.out (fun j hj => HB5.out.block j (HROW.out.lt j hj).2)
            obtain ⟨g6, cp6, hv6, _, hg6, hc6, hm6, hcell6⟩ := own_pos hrow5 (by omega)
            injection hv6 with hv6 _ hv6'
            subst hv6 hv6'
            have hc7 := hcell6 (ps.length / 8) (.int .i64 (tailR (bl s) (ps.length / 8))) (by rw [List.getElem?_map, List.getElem?_range q1]; rfl)
            have hq : ((ps.length : Int) / 8).toNat = ps.length / 8 := by omega
            have hq2 : (0 : Int) ≤ (ps.length : Int) / 8 := by omega
            have hq3 : (ps.length : Int) / 8 < (tailN (bl s) : Int) := by omega
            clear hcell6 hrow5
            by_cases q4 : tailR (bl s) (ps.length / 8) = (dat ps).length
            · have d4 : ((tailR (bl s) (ps.length / 8) : Int) != ((dat ps).length : Int)) = false := by rw [bne_eq_false_iff_eq]; omega
              by_cases q5 : smO X = 0
              · have d5 : ((smO X : Int) != 0) = false := by rw [bne_eq_false_iff_eq]; omega
                go_wp2_with fail
                (with_reducible refine (HGD.out _ _ _ H5.out).mono ?_)
                rintro e w6 ⟨rfl, rfl⟩
                rcases X with _ | ⟨pk, same, rest2⟩
                · rw [show (rsO none).isSome = false from rfl]
                  go_wp2_with fail
                  exact bodyPost_ret (v := .tuple #[.pointer none, .int .i64 3]) (by simp [results, Tryz.results86, go_sem]) rfl ⟨HB1.out.trans (HB5.out.mono hsz1), .inl ⟨rfl, fun Ps hP e => by
                    obtain ⟨p, r, -, hst, ho, hl, hn, h⟩ := HI.out.step hr0 hP e
                    rw [← HX.out] at hst; cases hst⟩⟩
                · rw [show (rsO (some (pk, same, rest2))).isSome = true from rfl]
                  simp only [show prO (some (pk, same, rest2)) = pk from rfl, show smO (some (pk, same, rest2)) = same from rfl, show rsO (some (pk, same, rest2)) = some rest2 from rfl] at *
                  obtain ⟨es1, es2, es3, es4, es5, es6⟩ := ent_stepF HX.out.symm
                  rw [show (str (lastK ps)).size = (lastK ps).length by simp [str, ByteArray.size]] at hlk
                  have z1 : (str pk.1).size = pk.1.length := by simp [str, ByteArray.size]
                  have z2 : (str pk.2).size = pk.2.length := by simp [str, ByteArray.size]
                  by_cases hok : Okp pk
                  · have HRY := Lib.hid (right_yes (str pk.1) (str pk.2) w5 (by rw [bl_str, bl_str]; exact hok))
                    by_cases hlt : lastK ps < pk.1
                    · obtain ⟨g1, g2⟩ := leq_no (a := str pk.1) (b := str (lastK ps)) (by rw [bl_str, bl_str]; exact hlt)
                      by_cases hn : ps.length = 4096
                      · have d6 : ((ps.length : Int) == 4096) = true := by rw [beq_iff_eq]; omega
                        go_wp2_with fail
                        (with_reducible refine HRY.out.mono ?_)
                        rintro e w6 ⟨rfl, rfl⟩
                        go_wp2_with fail
                        exact bodyPost_ret (v := .tuple #[.pointer none, .int .i64 3]) (by simp [results, Tryz.results86, go_sem]) rfl ⟨HB1.out.trans (HB5.out.mono hsz1), .inl ⟨rfl, fun Ps hP e => by
                    obtain ⟨p, r, -, hst, ho, hl, hn2, h⟩ := HI.out.step hr0 hP e
                    omega⟩⟩
                      · have d6 : ((ps.length : Int) == 4096) = false := by rw [beq_eq_false_iff_ne]; omega
                        go_wp2_with fail
                        (with_reducible refine HRY.out.mono ?_)
                        rintro e w6 ⟨rfl, rfl⟩
                        go_wp2_with fail
                        have hNX : InvO (bl s) (ps ++ [pk]) rest2 := HI.out.next hr0 HX.out.symm hok hlt (by omega) (fun _ => ⟨q1, q4, q5⟩) (fun h => absurd h8 h)
                        have hFS : Fr (fun k => k = w1.heap.size) w5 (w5.setCell ⟨w1.heap.size, 2, none⟩ (.int .i64 ((ps.length : Int) + 1))) := (Fr.refl (fun k => k = w1.heap.size) w5).setCell (p := ⟨w1.heap.size, 2, none⟩) (.inl rfl) _
                        have HNX := Lib.hid hNX
                        have HFS := Lib.hid hFS
                        clear hNX hFS
                        go_roundg rest2.length
                        case measure =>
                          injection es1 with es1
                          have e1 := congrArg List.length es1
                          rw [List.length_append] at e1
                          have e2 := hok.1
                          have e3 : 0 < (ent same pk).length := by
                            have := grp_pos same
                            unfold ent
                            simp only [List.length_append]
                            omega
                          omega
                        case rel =>
                          refine ⟨ps ++ [pk], rest2, rfl, by rw [lastK_snoc], HNX.out, H5.out.keep HFS.out (fun e => by omega), ?_, HB5.out.trans (HFS.out.below HB5.out.size (fun k _ e => by omega))⟩
                          have h := setAt2 (o := 2) (.int .i64 ((ps.length : Int) + 1)) HC5.out
                          rw [List.length_append, List.length_singleton]
                          exact h
                    · have g1 := leq_yes (a := str pk.1) (b := str (lastK ps)) (by rw [bl_str, bl_str]; exact hlt)
                      go_wp2_with fail
                      (with_reducible refine HRY.out.mono ?_)
                      rintro e w6 ⟨rfl, rfl⟩
                      go_wp2_with fail
                      exact bodyPost_ret (v := .tuple #[.pointer none, .int .i64 3]) (by simp [results, Tryz.results86, go_sem]) rfl ⟨HB1.out.trans (HB5.out.mono hsz1), .inl ⟨rfl, fun Ps hP e => by
                    obtain ⟨p, r, -, hst, ho, hl, hn, h⟩ := HI.out.step hr0 hP e
                    (rw [← HX.out, Option.some.injEq, Prod.mk.injEq] at hst; obtain ⟨rfl, -⟩ := hst; exact hlt hl)⟩⟩
                  · have HRN := Lib.hid (right_no (str pk.1) (str pk.2) w5 (by unfold maxLen; omega) (by unfold maxLen; omega) (by rw [bl_str, bl_str]; exact hok))
                    go_wp2_with fail
                    (with_reducible refine HRN.out.mono ?_)
                    rintro e w6 ⟨rfl, rfl⟩
                    go_wp2_with fail
                    exact bodyPost_ret (v := .tuple #[.pointer none, .int .i64 3]) (by simp [results, Tryz.results86, go_sem]) rfl ⟨HB1.out.trans (HB5.out.mono hsz1), .inl ⟨rfl, fun Ps hP e => by
                    obtain ⟨p, r, -, hst, ho, hl, hn, h⟩ := HI.out.step hr0 hP e
                    (rw [← HX.out, Option.some.injEq, Prod.mk.injEq] at hst; obtain ⟨rfl, -⟩ := hst; exact hok ho)⟩⟩
              · have d5 : ((smO X : Int) != 0) = true := by rw [bne_iff_ne]; omega
                go_wp2_with fail
                exact bodyPost_ret (v := .tuple #[.pointer none, .int .i64 3]) (by simp [results, Tryz.results86, go_sem]) rfl ⟨HB1.out.trans (HB5.out.mono hsz1), .inl ⟨rfl, fun Ps hP e => by
                  obtain ⟨p, r, -, hst, ho, hl, hn, h⟩ := HI.out.step hr0 hP e
                  (rw [← HX.out] at hst; subst hst; exact q5 (by show sameOf _ _ _ = 0; unfold sameOf; rw [if_pos h8]))⟩⟩
            · have d4 : ((tailR (bl s) (ps.length / 8) : Int) != ((dat ps).length : Int)) = true := by rw [bne_iff_ne]; omega
              go_wp2_with fail
              exact bodyPost_ret (v := .tuple #[.pointer none, .int .i64 3]) (by simp [results, Tryz.results86, go_sem]) rfl ⟨HB1.out.trans (HB5.out.mono hsz1), .inl ⟨rfl, fun Ps hP e => by
                  obtain ⟨p, r, -, hst, ho, hl, hn, h⟩ := HI.out.step hr0 hP e
                  exact q4 (h h8).2⟩⟩
          · have d1 : decide ((tailN (bl s) : Int) ≤ (ps.length : Int) / 8) = true := by rw [decide_eq_true_eq]; omega
            go_wp2_with fail
            exact bodyPost_ret (v := .tuple #[.pointer none, .int .i64 3]) (by simp [results, Tryz.results86, go_sem]) rfl ⟨HB1.out.trans (HB5.out.mono hsz1), .inl ⟨rfl, fun Ps hP e => by
              obtain ⟨p, r, -, -, -, -, -, h⟩ := HI.out.step hr0 hP e
              exact q1 (h h8).1⟩⟩
        · have d8 : (((ps.length : Int) % 8) == 0) = false := by rw [beq_eq_false_iff_ne]; omega
          go_wp2_with fail
          (with_reducible refine (HGD.out _ _ _ H5.out).mono ?_)
          rintro e w6 ⟨rfl, rfl⟩
          rcases X with _ | ⟨pk, same, rest2⟩
          · rw [show (rsO none).isSome = false from rfl]
            go_wp2_with fail
            exact bodyPost_ret (v := .tuple #[.pointer none, .int .i64 3]) (by simp [results, Tryz.results86, go_sem]) rfl ⟨HB1.out.trans (HB5.out.mono hsz1), .inl ⟨rfl, fun Ps hP e => by
              obtain ⟨p, r, -, hst, ho, hl, hn, h⟩ := HI.out.step hr0 hP e
              rw [← HX.out] at hst; cases hst⟩⟩
          · rw [show (rsO (some (pk, same, rest2))).isSome = true from rfl]
            simp only [show prO (some (pk, same, rest2)) = pk from rfl, show smO (some (pk, same, rest2)) = same from rfl, show rsO (some (pk, same, rest2)) = some rest2 from rfl] at *
            obtain ⟨es1, es2, es3, es4, es5, es6⟩ := ent_stepF HX.out.symm
            rw [show (str (lastK ps)).size = (lastK ps).length by simp [str, ByteArray.size]] at hlk
            have z1 : (str pk.1).size = pk.1.length := by simp [str, ByteArray.size]
            have z2 : (str pk.2).size = pk.2.length := by simp [str, ByteArray.size]
            by_cases hok : Okp pk
            · have HRY := Lib.hid (right_yes (str pk.1) (str pk.2) w5 (by rw [bl_str, bl_str]; exact hok))
              by_cases hlt : lastK ps < pk.1
              · obtain ⟨g1, g2⟩ := leq_no (a := str pk.1) (b := str (lastK ps)) (by rw [bl_str, bl_str]; exact hlt)
                have HCM := Lib.hid (common_any (str (lastK ps)) (str pk.1) w5 (by unfold maxLen; rw [show (str (lastK ps)).size = (lastK ps).length by simp [str, ByteArray.size]]; omega) (by unfold maxLen; omega))
                rw [bl_str, bl_str] at HCM
                by_cases hcm : same = cmn (lastK ps) pk.1
                · have d9 : ((same : Int) != (cmn (lastK ps) pk.1 : Int)) = false := by rw [bne_eq_false_iff_eq]; omega
                  go_wp2_with fail
                  (with_reducible refine HRY.out.mono ?_)
                  rintro e w6 ⟨rfl, rfl⟩
                  go_wp2_with fail
                  (with_reducible refine HCM.out.mono ?_)
                  rintro e w6 ⟨rfl, hb6⟩
                  have hf6 := Fr.of_below (fun _ => False) hb6
                  have H6 := Lib.hid (H5.out.keep hf6 (fun h => h))
                  have hc6 := (hf6.block w1.heap.size (lt_of_block HC5.out) (fun h => h)).trans HC5.out
                  have HC6 := Lib.hid hc6
                  have cb6 := cellOf2 (o := 2) hc6 rfl
                  have f6 := free_of2 2 hc6
                  have hp6 := (hf6.block w4.heap.size (lt_of_block HP5.out) (fun h => h)).trans HP5.out
                  have k60 := cellOf2 (o := 0) hp6 rfl
                  have HB6 := Lib.hid (HB5.out.trans (hf6.below HB5.out.size (fun _ _ h => h.elim)))
                  clear hf6 hb6 hc6 hp6
                  by_cases hn : ps.length = 4096
                  · exact absurd (by rw [hn]) h8
                  · have d6 : ((ps.length : Int) == 4096) = false := by rw [beq_eq_false_iff_ne]; omega
                    go_wp2_with fail
                    have hNX : InvO (bl s) (ps ++ [pk]) rest2 := HI.out.next hr0 HX.out.symm hok hlt (by omega) (fun h => absurd h h8) (fun _ => hcm)
                    have hFS : Fr (fun k => k = w1.heap.size) w6 (w6.setCell ⟨w1.heap.size, 2, none⟩ (.int .i64 ((ps.length : Int) + 1))) := (Fr.refl (fun k => k = w1.heap.size) w6).setCell (p := ⟨w1.heap.size, 2, none⟩) (.inl rfl) _
                    have HNX := Lib.hid hNX
                    have HFS := Lib.hid hFS
                    clear hNX hFS
                    go_roundg rest2.length
                    case measure =>
                      injection es1 with es1
                      have e1 := congrArg List.length es1
                      rw [List.length_append] at e1
                      have e2 := hok.1
                      have e3 : 0 < (ent same pk).length := by
                        have := grp_pos same
                        unfold ent
                        simp only [List.length_append]
                        omega
                      omega
                    case rel =>
                      refine ⟨ps ++ [pk], rest2, rfl, by rw [lastK_snoc], HNX.out, H6.out.keep HFS.out (fun e => by omega), ?_, HB6.out.trans (HFS.out.below HB6.out.size (fun k _ e => by omega))⟩
                      have h := setAt2 (o := 2) (.int .i64 ((ps.length : Int) + 1)) HC6.out
                      rw [List.length_append, List.length_singleton]
                      exact h
                · have d9 : ((same : Int) != (cmn (lastK ps) pk.1 : Int)) = true := by rw [bne_iff_ne]; omega
                  go_wp2_with fail
                  (with_reducible refine HRY.out.mono ?_)
                  rintro e w6 ⟨rfl, rfl⟩
                  go_wp2_with fail
                  (with_reducible refine HCM.out.mono ?_)
                  rintro e w6 ⟨rfl, hb6⟩
                  have HB6 := Lib.hid (HB5.out.trans ((Fr.of_below (fun _ => False) hb6).below HB5.out.size (fun _ _ h => h.elim)))
                  clear hb6
                  go_wp2_with fail
                  exact bodyPost_ret (v := .tuple #[.pointer none, .int .i64 3]) (by simp [results, Tryz.results86, go_sem]) rfl ⟨HB1.out.trans (HB6.out.mono hsz1), .inl ⟨rfl, fun Ps hP e => by
                    obtain ⟨p, r, -, hst, ho, hl, hn, h⟩ := HI.out.step hr0 hP e
                    rw [← HX.out, Option.some.injEq, Prod.mk.injEq] at hst
                    obtain ⟨rfl, hst⟩ := hst
                    have hst := congrArg Prod.fst hst
                    exact hcm (hst.trans (by show sameOf _ _ _ = _; unfold sameOf; rw [if_neg h8]))⟩⟩
              · have g1 := leq_yes (a := str pk.1) (b := str (lastK ps)) (by rw [bl_str, bl_str]; exact hlt)
                go_wp2_with fail
                (with_reducible refine HRY.out.mono ?_)
                rintro e w6 ⟨rfl, rfl⟩
                go_wp2_with fail
                exact bodyPost_ret (v := .tuple #[.pointer none, .int .i64 3]) (by simp [results, Tryz.results86, go_sem]) rfl ⟨HB1.out.trans (HB5.out.mono hsz1), .inl ⟨rfl, fun Ps hP e => by
                  obtain ⟨p, r, -, hst, ho, hl, hn, h⟩ := HI.out.step hr0 hP e
                  (rw [← HX.out, Option.some.injEq, Prod.mk.injEq] at hst; obtain ⟨rfl, -⟩ := hst; exact hlt hl)⟩⟩
            · have HRN := Lib.hid (right_no (str pk.1) (str pk.2) w5 (by unfold maxLen; omega) (by unfold maxLen; omega) (by rw [bl_str, bl_str]; exact hok))
              go_wp2_with fail
              (with_reducible refine HRN.out.mono ?_)
              rintro e w6 ⟨rfl, rfl⟩
              go_wp2_with fail
              exact bodyPost_ret (v := .tuple #[.pointer none, .int .i64 3]) (by simp [results, Tryz.results86, go_sem]) rfl ⟨HB1.out.trans (HB5.out.mono hsz1), .inl ⟨rfl, fun Ps hP e => by
                obtain ⟨p, r, -, hst, ho, hl, hn, h⟩ := HI.out.step hr0 hP e
                (rw [← HX.out, Option.some.injEq, Prod.mk.injEq] at hst; obtain ⟨rfl, -⟩ := hst; exact hok ho)⟩⟩
end Go.Proofs.YtdbfaknpfepnfaaGreatDoor

/-
  Plain: a block's pairs from a restart on.
-/
namespace Go.Proofs.YtdbfaknpfepnfaaGreatDoor
open CodecP

set_option maxRecDepth 100000 in
theorem datF_restart (n : Nat) (h : n % 8 = 0) (a b : List UInt8) (ps : List Pr) : datF n a ps = datF n b ps := by
  cases ps with
  | nil => rfl
  | cons p r => simp only [datF, sameOf, if_pos h]
set_option maxRecDepth 100000 in
/-- The next pair, wherever one stands. -/
theorem stepF_dat {l : List Pr} (ho : ∀ p ∈ l, Okp p) (i : Nat) (last : List UInt8) (hl : last.length ≤ 80) (hi : i < l.length) :
    stepF last (some (datF i last (l.drop i))) = some (l[i], sameOf i last l[i].1, datF (i + 1) l[i].1 (l.drop (i + 1))) := by
  rw [List.drop_eq_getElem_cons hi, datF]
  have hs := sameOf_le i last l[i].1
  have hok := ho l[i] (List.getElem_mem hi)
  refine stepF_ent _ _ _ _ hs.1 ?_ (by omega) (by have := hok.2.1; omega) hok.2.2
  unfold sameOf
  split
  · rfl
  · exact (cmn_take _ _).symm
set_option maxRecDepth 100000 in
/-- Where a restart stands, and what comes from there. -/
theorem rst_at (l : List Pr) (r : Nat) (h : 8 * r < l.length) : ∃ off, (rst l)[r]? = some off ∧ off ≤ (dat l).length ∧ (dat l).drop off = datF (8 * r) [] (l.drop (8 * r)) := by
  have hsplit : l = l.take (8 * r) ++ l.drop (8 * r) := (List.take_append_drop _ _).symm
  have hlen : (l.take (8 * r)).length = 8 * r := by rw [List.length_take]; omega
  have hd : dat l = dat (l.take (8 * r)) ++ datF (8 * r) (lastK (l.take (8 * r))) (l.drop (8 * r)) := by
    have := datF_append (l.take (8 * r)) (l.drop (8 * r)) 0 []
    rw [← hsplit, Nat.zero_add, hlen] at this
    exact this
  have hr : rst l = rst (l.take (8 * r)) ++ rstF (8 * r) (dat (l.take (8 * r))).length (lastK (l.take (8 * r))) (l.drop (8 * r)) := by
    have := rstF_append (l.take (8 * r)) (l.drop (8 * r)) 0 0 []
    rw [← hsplit, Nat.zero_add, Nat.zero_add, hlen] at this
    exact this
  refine ⟨(dat (l.take (8 * r))).length, ?_, ?_, ?_⟩
  · have hk : (rst (l.take (8 * r))).length = r := by rw [rst_len, hlen]; omega
    rw [hr, List.getElem?_append_right (by omega), hk, Nat.sub_self, List.drop_eq_getElem_cons h, rstF, if_pos (by omega)]
    rfl
  · rw [hd, List.length_append]; omega
  · rw [hd, List.drop_left' rfl]
    exact datF_restart _ (by omega) _ _ _
set_option maxRecDepth 100000 in
theorem Rise.key {l : List Pr} (h : Rise l) {i j : Nat} (hj : j < l.length) (hij : i < j) : (l[i]'(by omega)).1 < l[j].1 :=
  List.pairwise_iff_getElem.1 h.up i j (by omega) hj hij
end Go.Proofs.YtdbfaknpfepnfaaGreatDoor

/-
  The walk of block's from.
-/
namespace Go.Proofs.YtdbfaknpfepnfaaGreatDoor
open Go.RowKit CodecP

/-- A pair, as a value. -/
def prV (p : Pr) : Value := .agg #[.string (str p.1), .string (str p.2)]
set_option maxRecDepth 100000 in
theorem prO_some (a : Pr) (b : Nat) (c : List UInt8) : prO (some (a, b, c)) = a := rfl
set_option maxRecDepth 100000 in
theorem smO_some (a : Pr) (b : Nat) (c : List UInt8) : smO (some (a, b, c)) = b := rfl
set_option maxRecDepth 100000 in
theorem rsO_some (a : Pr) (b : Nat) (c : List UInt8) : rsO (some (a, b, c)) = some c := rfl
set_option maxRecDepth 100000 in
theorem h2_of {w w2 : World} {B p : Nat} {v : Value} {l : List Pr} (hb : Below w.heap.size w w2) (h : Bk w B p v l) : Bk w2 B p v l :=
  ⟨(hb.block p (lt_of_block h.cells)).trans h.cells, owns_of_block h.row (fun k hk => hb.block k (h.row.lt k hk).2), h.rise, h.at_⟩
set_option maxRecDepth 100000 in
set_option maxHeartbeats 2000000 in
/-- from, where the function that sees keeps a state. J i w U: it waits for pair i, and the blocks of U are its own; Q: it has told to stop. -/
theorem from_any (J : Nat → World → (Nat → Prop) → Prop) (Q : World → Prop) (S : Nat → Prop) (fn : Nat) (caps : Array Value) (eg : ∀ args W, (callFunc fn args).run Tryz.prog W = .ok (.enter fn args) W) (B p : Nat) (v : Value) (l : List Pr) (r : Nat) (w : World)
    (h : Bk w B p v l) (hr : 8 * r < l.length) (hSp : ¬ S p) (hJ0 : ∃ U, J (8 * r) w U) (hst : ∀ i w1 w2 U, J i w1 U → Fr (fun k => k = w.heap.size) w1 w2 → J i w2 U)
    (hU : ∀ i w1 U, w.heap.size ≤ w1.heap.size → J i w1 U → ∀ k, U k → k < w1.heap.size ∧ k ≠ p ∧ k ≠ w.heap.size ∧ (∀ g, v.ownBlock = some g → k ≠ g) ∧ (k < w.heap.size → S k))
    (hsee : ∀ i (hi : i < l.length) w1 U, w.heap.size < w1.heap.size → J i w1 U → Calls Tryz.prog fn (#[.int .i64 i, prV l[i]] ++ caps) w1 fun e w2 =>
      Fr U w1 w2 ∧ ((e = .returned (.bool true) ∧ ∃ U2, J (i + 1) w2 U2) ∨ (e = .returned (.bool false) ∧ Q w2))) :
    Calls Tryz.prog 133 #[(Value.pointer (some ⟨p, 0, none⟩)), .int .i64 r, .func (.func fn) #[] caps] w fun e w' => e = .returned (.tuple #[]) ∧ Fr S w w' ∧ ((∃ U, J l.length w' U) ∨ ∃ w1, Q w1 ∧ Fr (fun _ => False) w1 w') := by
  have HRD := Lib.hid read_o
  have HST := Lib.hid step_any
  obtain ⟨off, o1, o2, o3⟩ := rst_at l r hr
  have hle := h.rise.le
  have hdl := dat_len h.rise.ok
  have hrl := rst_len l
  have q1 : r < (rst l).length := by omega
  obtain ⟨g, cp, hv, _, hg, hc, hm, hcell⟩ := own_pos h.row (by omega)
  have hc7 := hcell r (.int .i64 off) (by rw [List.getElem?_map, o1]; rfl)
  subst hv
  have c0 : w.cell? ⟨p, 0, none⟩ = some (.string (str (dat l))) := cellOf2 (o := 0) h.cells rfl
  have c1 : w.cell? ⟨p, 1, none⟩ = some (.slice (some ⟨g, 0, none⟩) (rst l).length cp) := cellOf2 (o := 1) h.cells rfl
  have z1 : (str (dat l)).size = (dat l).length := by simp [str, ByteArray.size]
  have ex : (str (dat l)).extract off (dat l).length = str (datF (8 * r) [] (l.drop (8 * r))) := by
    rw [← o3, ← str_bl ((str (dat l)).extract _ _), ext_bl, bl_str]
    congr 1
    rw [List.take_of_length_le (by rw [List.length_drop]; omega)]
  have zx : (str (datF (8 * r) [] (l.drop (8 * r)))).size ≤ maxLen := by
    rw [← o3]
    rw [show (str ((dat l).drop off)).size = ((dat l).drop off).length by simp [str, ByteArray.size], List.length_drop]
    unfold maxLen
    omega
  have HEX := Lib.hid ex
  have HZX := Lib.hid zx
  have HH := Lib.hid h
  have HU := Lib.hid hU
  have HSEE := Lib.hid hsee
  have HJ0 := Lib.hid hJ0
  have HSTB := Lib.hid hst
  have HSP := Lib.hid hSp
  have o2' : (off : Int) ≤ ((dat l).length : Int) := by omega
  have o4 : (r : Int) < ((rst l).length : Int) := by omega
  have wr8 : IntKind.i64.wrap ((r : Int) * 8) = (r : Int) * 8 := IntWalk.i64_in _ (by omega)
  clear ex h hU hsee hJ0 hst hSp o3 hdl hcell zx hrl
  unfold maxLen at hm
  go_enter Tryz.func133, Tryz.ntmps133
  go_wp2_with fail
  refine wp_region_held_drew (S := (fun w' => w'.cell? ⟨p, 0, none⟩ = some (.string (str (dat l))) ∧ w'.cell? ⟨p, 1, none⟩ = some (.slice (some ⟨g, 0, none⟩) (rst l).length cp) ∧ w'.cell? ⟨g, r, none⟩ = some (.int .i64 off))) (by kernel_rfl) (by (try dsimp only); exact ⟨c0, c1, hc7⟩) (fun hHeld => ?_)
  refine takeH (i := 0) (d := some 11) (v := ?_) rfl rfl (by kernel_rfl) (by kernel_rfl) (by kernel_rfl) (fun _ _ _ h => h) (Or.inl ⟨by rfl, ?_⟩) (by assumption) ?_
  rotate_left
  · intro wS hSw; (try dsimp only at hSw); go_simp; (try (with_reducible rfl))
  simp only [Act.put, List.setIfInBounds_toArray, List.set_cons_zero, List.set_cons_succ]
  refine takeH (i := 1) (d := some 12) (v := ?_) rfl rfl (by kernel_rfl) (by kernel_rfl) (by kernel_rfl) (fun _ _ _ h => h) (Or.inl ⟨by rfl, ?_⟩) (by assumption) ?_
  rotate_left
  · intro wS hSw; (try dsimp only at hSw); go_simp; (try (with_reducible rfl))
  simp only [Act.put, List.setIfInBounds_toArray, List.set_cons_zero, List.set_cons_succ]
  refine takeH (i := 2) (d := some 13) (v := ?_) rfl rfl (by kernel_rfl) (by kernel_rfl) (by kernel_rfl) (fun _ _ _ h => h) (Or.inl ⟨by rfl, ?_⟩) (by assumption) ?_
  rotate_left
  · intro wS hSw; (try dsimp only at hSw); go_simp; (try (with_reducible rfl))
  simp only [Act.put, List.setIfInBounds_toArray, List.set_cons_zero, List.set_cons_succ]
  refine takeH (i := 3) (d := some 14) (v := ?_) rfl rfl (by kernel_rfl) (by kernel_rfl) (by kernel_rfl) (fun _ _ _ h => h) (Or.inl ⟨by rfl, ?_⟩) (by assumption) ?_
  rotate_left
  · intro wS hSw; (try dsimp only at hSw); go_simp; (try (with_reducible rfl))
  simp only [Act.put, List.setIfInBounds_toArray, List.set_cons_zero, List.set_cons_succ]
  refine takeH (i := 4) (d := some 15) (v := ?_) rfl rfl (by kernel_rfl) (by kernel_rfl) (by kernel_rfl) (fun _ _ _ h => h) (Or.inl ⟨by rfl, ?_⟩) (by assumption) ?_
  rotate_left
  · intro wS hSw; (try dsimp only at hSw); go_simp; (try (with_reducible rfl))
  simp only [Act.put, List.setIfInBounds_toArray, List.set_cons_zero, List.set_cons_succ]
  refine takeH (i := 5) (d := some 16) (v := ?_) rfl rfl (by kernel_rfl) (by kernel_rfl) (by kernel_rfl) (fun _ _ _ h => h) (Or.inl ⟨by rfl, ?_⟩) (by assumption) ?_
  rotate_left
  · intro wS hSw; (try dsimp only at hSw); go_simp; (try (with_reducible rfl))
  simp only [Act.put, List.setIfInBounds_toArray, List.set_cons_zero, List.set_cons_succ]
  refine takeH (i := 6) (d := some 17) (v := ?_) rfl rfl (by kernel_rfl) (by kernel_rfl) (by kernel_rfl) (fun _ _ _ h => h) (Or.inl ⟨by rfl, ?_⟩) (by assumption) ?_
  rotate_left
  · intro wS hSw; (try dsimp only at hSw); go_simp; (try (with_reducible rfl))
  simp only [Act.put, List.setIfInBounds_toArray, List.set_cons_zero, List.set_cons_succ]
  refine takeH (i := 7) (d := some 18) (v := ?_) rfl rfl (by kernel_rfl) (by kernel_rfl) (by kernel_rfl) (fun _ _ _ h => h) (Or.inl ⟨by rfl, ?_⟩) (by assumption) ?_
  rotate_left
  · intro wS hSw; (try dsimp only at hSw); go_simp; (try (with_reducible rfl))
  simp only [Act.put, List.setIfInBounds_toArray, List.set_cons_zero, List.set_cons_succ]
  refine takeH (i := 8) (d := some 19) (v := ?_) rfl rfl (by kernel_rfl) (by kernel_rfl) (by kernel_rfl) (fun _ _ _ h => h) (Or.inl ⟨by rfl, ?_⟩) (by assumption) ?_
  rotate_left
  · intro wS hSw; (try dsimp only at hSw); go_simp; (try (with_reducible rfl))
  simp only [Act.put, List.setIfInBounds_toArray, List.set_cons_zero, List.set_cons_succ]
  refine takeH (i := 9) (d := some 20) (v := ?_) rfl rfl (by kernel_rfl) (by kernel_rfl) (by kernel_rfl) (fun _ _ _ h => h) (Or.inl ⟨by rfl, ?_⟩) (by assumption) ?_
  rotate_left
  · intro wS hSw; (try dsimp only at hSw); go_simp; (try (with_reducible rfl))
  simp only [Act.put, List.setIfInBounds_toArray, List.set_cons_zero, List.set_cons_succ]
  refine takeH (i := 10) (d := some 21) (v := ?_) rfl rfl (by kernel_rfl) (by kernel_rfl) (by kernel_rfl) (fun _ _ _ h => h) (Or.inl ⟨by rfl, ?_⟩) (by assumption) ?_
  rotate_left
  · intro wS hSw; (try dsimp only at hSw); go_simp; (try (with_reducible rfl))
  simp only [Act.put, List.setIfInBounds_toArray, List.set_cons_zero, List.set_cons_succ]
  refine takeH (i := 11) (d := some 22) (v := ?_) rfl rfl (by kernel_rfl) (by kernel_rfl) (by kernel_rfl) (fun _ _ _ h => h) (Or.inl ⟨by rfl, ?_⟩) (by assumption) ?_
  rotate_left
  · intro wS hSw; (try dsimp only at hSw); go_simp; (try (with_reducible rfl))
  simp only [Act.put, List.setIfInBounds_toArray, List.set_cons_zero, List.set_cons_succ]
  refine wpAnyH_ready (rs := [12]) (by kernel_rfl) (by simp) ?_
  refine AllReadyH.cons rfl (fun K hK => ?_) AllReadyH.nil
  go_simp
  rw [HEX.out]
  refine (HRD.out _ _ HZX.out).mono ?_
  rintro e w2 ⟨rfl, h2, hb2⟩
  have hb2' : Below w.heap.size w w2 := hb2.undrew
  have hj2 := hb2'
  have k0 := (Fr.of_below (fun _ => False) hb2').cell c0 (fun h => h)
  have k1 := (Fr.of_below (fun _ => False) hb2').cell c1 (fun h => h)
  have k2 := (Fr.of_below (fun _ => False) hb2').cell hc7 (fun h => h)
  have H2 := Lib.hid h2
  have HB2 := Lib.hid hb2'
  clear h2 hb2 hb2' hj2
  go_wp2_with fail
  refine hK.out _ _ (by (try dsimp only); exact ⟨k0, k1, k2⟩) (fun hHeld => ?_)
  clear hK K
  refine takeH (i := 13) (d := some 6) (v := ?_) rfl rfl (by kernel_rfl) (by kernel_rfl) (by kernel_rfl) (fun _ _ _ h => h) (Or.inl ⟨by rfl, ?_⟩) (by assumption) ?_
  rotate_left
  · intro wS hSw; (try dsimp only at hSw); go_simp; (try (with_reducible rfl))
  simp only [Act.put, List.setIfInBounds_toArray, List.set_cons_zero, List.set_cons_succ]
  refine wpAnyH_done (by kernel_rfl) ?_ _
  have hp2 := h2_of HB2.out HH.out
  have h2 := H2.out
  rw [bl_str, show w.drew.heap.size = w.heap.size from rfl] at h2
  have HR2 := Lib.hid h2
  have HP2 := Lib.hid hp2
  clear h2 hp2 c0 c1 hc7 z1 H2 hHeld
  go_wp2_with fail
  have hrl' : r * 8 ≤ l.length := by omega
  go_loopg [7, 8] (l.length - r * 8) (fun g lv iv wr => ∃ (i : Nat) (last : List UInt8), i ≤ l.length ∧ 8 * r ≤ i ∧ l.length - i = g ∧ lv = .string (str last) ∧ iv = .int .i64 i ∧ last.length ≤ 80 ∧ RO wr w.heap.size (some (datF i last (l.drop i))) ∧
    (∃ U, J i wr U) ∧ Fr S w wr)
  case atStart =>
    obtain ⟨U, hU⟩ := HJ0.out
    exact ⟨8 * r, [], by omega, Nat.le_refl _, by rw [Nat.mul_comm], rfl, by rw [Nat.mul_comm]; rfl, Nat.zero_le _, HR2.out, ⟨U, HSTB.out _ _ _ _ hU (Fr.of_below _ HB2.out)⟩, Fr.of_below _ HB2.out⟩
  case round =>
    obtain ⟨i, last, hi, hri, hg, rfl, rfl, hlast, hRO, ⟨U, hJ⟩, hF⟩ := hrel
    have hlt := lt_of_block HH.out.cells
    have hcp := (hF.block p hlt HSP.out).trans HH.out.cells
    have c2 := cellOf2 (o := 2) hcp rfl
    have HRO := Lib.hid hRO
    have HJ := Lib.hid hJ
    have HF := Lib.hid hF
    clear hRO hJ hF hcp
    by_cases hil : i = l.length
    · have d0 : decide ((i : Int) < (l.length : Int)) = false := by rw [decide_eq_false_iff_not]; omega
      go_wp2_with fail
      go_end0
      subst hil
      exact ⟨rfl, HF.out, .inl ⟨U, HJ.out⟩⟩
    · have hil' : i < l.length := by omega
      have d0 : decide ((i : Int) < (l.length : Int)) = true := by rw [decide_eq_true_eq]; omega
      have HSS := Lib.hid (HST.out w.heap.size (str last) _ wr HRO.out (by rw [show (str last).size = last.length by simp [str, ByteArray.size]]; omega))
      rw [bl_str, stepF_dat HH.out.rise.ok i last hlast hil', prO_some, smO_some, rsO_some] at HSS
      have hok := HH.out.rise.ok l[i] (List.getElem_mem hil')
      have hsee := HSEE.out i hil'
      have hlt := hok.2.1
      unfold prV at hsee
      obtain ⟨pr, hpr⟩ : ∃ pr, pr = l[i] := ⟨_, rfl⟩
      rw [← hpr] at hsee HSS hlt
      have HSE := Lib.hid hsee
      clear hsee hok hpr
      go_wp2_with fail
      (with_reducible refine HSS.out.mono ?_)
      rintro e w4 ⟨rfl, h4, hf4⟩
      have hs4 : wr.heap.size ≤ w4.heap.size := hf4.size
      have hwr : w.heap.size ≤ wr.heap.size := HF.out.size
      have hj4 := HSTB.out _ _ _ _ HJ.out hf4
      have H4 := Lib.hid h4
      have HF4 := Lib.hid (HF.out.trans (hf4.mono (T := fun k => k = w.heap.size ∨ S k) (fun k _ h => .inl h)) (fun k hk h => h.elim (fun e => absurd e (by omega)) id))
      have h5 : Fr (fun _ => False) w4 (w4.alloc (.cells #[.string (str pr.1), .string (str pr.2)] 43)) := (Fr.refl _ w4).alloc _
      have hp5 : (w4.alloc (.cells #[.string (str pr.1), .string (str pr.2)] 43)).heap[w4.heap.size]? = some (.cells #[.string (str pr.1), .string (str pr.2)] 43 (0, 0)) := by
        show (w4.heap.push _)[w4.heap.size]? = _
        simp
      have hsz5 : w4.heap.size < (w4.alloc (.cells #[.string (str pr.1), .string (str pr.2)] 43)).heap.size := by simp
      have HP5 := Lib.hid hp5
      have H5 := Lib.hid (H4.out.keep h5 (fun h => h))
      have HF5 := Lib.hid (HF4.out.trans h5 (fun _ _ h => h.elim))
      have HJ5 := Lib.hid (HSTB.out _ _ _ _ hj4 (h5.mono (fun _ _ h => h.elim)))
      have HU4 := Lib.hid (HU.out _ _ _ (by omega) hj4)
      clear h4 hf4 hj4 h5 hp5
      go_upto_region 6 with (fail)
      generalize w4.alloc (.cells #[.string (str pr.1), .string (str pr.2)] 43) = w5 at *
      have k0 := cellOf2 (o := 0) HP5.out rfl
      have k1 := cellOf2 (o := 1) HP5.out rfl
      go_wp2_with fail
      (with_reducible refine (HSE.out w5 U H5.out.lt HJ5.out).mono ?_)
      rintro e w6 ⟨hf6, ⟨rfl, U2, hj6⟩ | ⟨rfl, hq6⟩⟩
      · have hp6 := (hf6.block w4.heap.size (lt_of_block HP5.out) (fun h => by have := (HU4.out _ h).1; omega)).trans HP5.out
        have k60 := cellOf2 (o := 0) hp6 rfl
        have HR6 := Lib.hid (H5.out.keep hf6 (fun h => (HU4.out _ h).2.2.1 rfl))
        have HF6 := Lib.hid (HF5.out.trans hf6 (fun k hk h => (HU4.out _ h).2.2.2.2 hk))
        have HJ6 := Lib.hid hj6
        have wi : IntKind.i64.wrap ((i : Int) + 1) = (i : Int) + 1 := IntWalk.i64_in _ (by omega)
        clear hf6 hj6 hp6
        go_wp2_with fail
        go_roundg (l.length - (i + 1))
        case measure => omega
        case rel => exact ⟨i + 1, pr.1, by omega, by omega, rfl, rfl, by go_num, hlt, HR6.out, ⟨U2, HJ6.out⟩, HF6.out⟩
      · have HF6 := Lib.hid (HF5.out.trans hf6 (fun k hk h => (HU4.out _ h).2.2.2.2 hk))
        clear hf6
        go_wp2_with fail
        exact bodyPost_ret (v := .tuple #[]) (by simp [results, Tryz.results133, go_sem]) rfl ⟨rfl, HF6.out, .inr ⟨w6, hq6, Fr.refl _ _⟩⟩
end Go.Proofs.YtdbfaknpfepnfaaGreatDoor

/-
  The walk of block's All.
-/
namespace Go.Proofs.YtdbfaknpfepnfaaGreatDoor
open Go.RowKit CodecP

set_option maxRecDepth 100000 in
theorem info_prB : (Tryz.prog.info? 43).map (fun i => (i.zero, i.size, i.bytes)) = some (some (.agg #[.string ⟨#[]⟩, .string ⟨#[]⟩]), 2, 32) := by kernel_rfl
/-- All's state: the cell at c holds the pairs seen. -/
structure AllS (w : World) (c b : Nat) (v : Value) (qs : List Pr) : Prop where
  cell : w.heap[c]? = some (.cells #[v] 42 (0, 0))
  row : w.ownsRow b 43 2 v qs.length (flatR qs)
  lt : c < b
/-- The blocks that All's function writes. -/
def AllU (c : Nat) (v : Value) (k : Nat) : Prop := k = c ∨ v.ownBlock = some k
set_option maxRecDepth 100000 in
theorem AllS.keep {w w' : World} {S : Nat → Prop} {c b : Nat} {v : Value} {qs : List Pr} (h : AllS w c b v qs) (hf : Fr S w w') (hS : ∀ k, AllU c v k → ¬ S k) : AllS w' c b v qs :=
  ⟨(hf.block c (lt_of_block h.cell) (hS c (.inl rfl))).trans h.cell, owns_of_block h.row (fun k hk => hf.block k (h.row.lt k hk).2 (hS k (.inr hk))), h.lt⟩
set_option maxRecDepth 100000 in
set_option maxHeartbeats 2000000 in
theorem all1_any (i : Nat) (q : Pr) (c b : Nat) (v : Value) (qs : List Pr) (w : World) (h : AllS w c b v qs) (hb : b ≤ w.heap.size) (hq : qs.length ≤ 4096) :
    Calls Tryz.prog 147 #[.int .i64 i, prV q, (Value.pointer (some ⟨c, 0, none⟩))] w fun e w' => Fr (AllU c v) w w' ∧ e = .returned (.bool true) ∧ ∃ v', AllS w' c b v' (qs ++ [q]) ∧ (v'.ownBlock = v.ownBlock ∨ ∃ k, v'.ownBlock = some k ∧ w.heap.size ≤ k) := by
  obtain ⟨i0, hi, hz0, hz1, hz2⟩ := info_parts info_prB
  unfold prV
  have hc := h.cell
  have hclt := lt_of_block hc
  have h1 : Fr (fun _ => False) w (w.alloc (.cells #[.string (str q.1), .string (str q.2)] 43)) := (Fr.refl _ w).alloc _
  have hs1 := h.keep h1 (fun _ _ h => h)
  have hp1 : (w.alloc (.cells #[.string (str q.1), .string (str q.2)] 43)).heap[w.heap.size]? = some (.cells #[.string (str q.1), .string (str q.2)] 43 (0, 0)) := by
    show (w.heap.push _)[w.heap.size]? = _
    simp
  have hg : (w.alloc (.cells #[.string (str q.1), .string (str q.2)] 43)).heap.size = w.heap.size + 1 := by simp
  obtain ⟨ao, cp, hv⟩ := own_form h.row
  subst hv
  have HS1 := Lib.hid hs1
  have HP1 := Lib.hid hp1
  have HF1 := Lib.hid (h1.mono (T := AllU c (.slice ao qs.length cp)) (fun _ _ h => h.elim))
  have HG := Lib.hid hg
  have hb5 : b ≤ (w.alloc (.cells #[.string (str q.1), .string (str q.2)] 43)).heap.size := by omega
  clear h h1 hs1 hp1 hg hc
  go_enter Tryz.func147, Tryz.ntmps147
  go_upto_region 1 with (fail)
  generalize w.alloc (.cells #[.string (str q.1), .string (str q.2)] 43) = w5 at *
  have k0 := cellOf2 (o := 0) HP1.out rfl
  have k1 := cellOf2 (o := 1) HP1.out rfl
  have cc := cellOf2 (o := 0) HS1.out.cell rfl
  have fc := free_of2 0 HS1.out.cell
  have hql : flatR [q] = [.string (str q.1), .string (str q.2)] := rfl
  have HQL := Lib.hid hql
  clear hql
  generalize str q.1 = sk at *
  generalize str q.2 = sv at *
  go_wp2_with (at_builtin; refine wpList_append_own_at _ rfl _ _ 42 rfl b 43 i0 (.agg #[.string ⟨#[]⟩, .string ⟨#[]⟩]) 2 32 Tryz.underlying42 hi hz0 hz1 hz2 rfl (by decide) _ _ _ rfl (HS1.out.row.alloc _) ⟨w5.heap.size, 0, none⟩ 1 1 [.string sk, .string sv] rfl rfl (cells2_new _ _ _ _) (two_one _ _) (by unfold maxLen; omega) (by omega) (by simp; omega) ?_; intro v' w6 hown' hgrow hatt1 hatt2; obtain ⟨ao6, cp6, hv6⟩ := own_form hown'; subst hv6; have hfr : Fr (fun j => (Value.slice ao qs.length cp).ownBlock = some j) w5 w6 := (((Fr.refl _ w5).alloc _).grown hgrow (fun _ _ h => h)); have hc6 := (hfr.block c (lt_of_block HS1.out.cell) (fun e => (by have := (HS1.out.row.lt c e).1; have := HS1.out.lt; omega))).trans HS1.out.cell; have cc6 := cellOf2 (o := 0) hc6 rfl; have fc6 := free_of2 0 hc6; have HC6 := Lib.hid hc6; have HFR := Lib.hid hfr; have HOWN := Lib.hid hown'; have HAT := Lib.hid hatt2; clear hfr hc6 hown' hgrow hatt1 hatt2)
  have hat : (Value.slice ao6 (qs.length + 1) cp6).ownBlock = (Value.slice ao qs.length cp).ownBlock ∨ (Value.slice ao6 (qs.length + 1) cp6).ownBlock = some (w5.alloc (.cells #[.string sk, .string sv] 43)).heap.size := HAT.out
  have hgs := HG.out
  have hat2 : (Value.slice ao6 (qs.length + 1) cp6).ownBlock = (Value.slice ao qs.length cp).ownBlock ∨ ∃ k, (Value.slice ao6 (qs.length + 1) cp6).ownBlock = some k ∧ w.heap.size ≤ k :=
    hat.imp id (fun e => ⟨_, e, by simp; omega⟩)
  have hs7 : Fr (fun k => k = c) w6 (w6.setCell ⟨c, 0, none⟩ (.slice ao6 (qs.length + 1) cp6)) := (Fr.refl (fun k => k = c) w6).setCell (p := ⟨c, 0, none⟩) (.inl rfl) _
  have hown := HOWN.out
  rw [← HQL.out, ← flatR_append] at hown
  go_ret
  refine ⟨(HF1.out.trans HFR.out (fun k _ h => .inr h)).trans hs7 (fun k _ h => .inl h), rfl, _, ⟨setAt2 (o := 0) _ HC6.out, ?_, HS1.out.lt⟩, hat2⟩
  rw [List.length_append, List.length_singleton]
  exact owns_of_block hown (fun k hk => hs7.block k (hown.lt k hk).2 (fun e => by have := (hown.lt k hk).1; have := HS1.out.lt; omega))
set_option maxRecDepth 100000 in
theorem own_base {w : World} {b b' e size n : Nat} {v : Value} {xs : List Value} (h : w.ownsRow b e size v n xs) (hb : b' ≤ b) : w.ownsRow b' e size v n xs := by
  obtain ⟨h1, h2⟩ := h
  refine ⟨h1, ?_⟩
  rcases h2 with h2 | ⟨g, cap, cur, hv, hg, r⟩
  · exact .inl h2
  · exact .inr ⟨g, cap, cur, hv, Nat.le_trans hb hg, r⟩
set_option maxRecDepth 100000 in
theorem bk_len (p B : Nat) (v : Value) (l : List Pr) (w : World) (h : Bk w B p v l) :
    Calls Tryz.prog 129 #[(Value.pointer (some ⟨p, 0, none⟩))] w fun e w' => e = .returned (.int .i64 l.length) ∧ w = w' := by
  have c2 := cellOf2 (o := 2) h.cells rfl
  clear h
  go_enter Tryz.func129, Tryz.ntmps129
  go_wp2_with fail
  go_ret
  exact ⟨rfl, rfl⟩
set_option maxRecDepth 100000 in
theorem allB_enter (args : Array Value) (w : World) : (callFunc 147 args).run Tryz.prog w = .ok (.enter 147 args) w := by rfl
set_option maxRecDepth 100000 in
set_option maxHeartbeats 2000000 in
theorem all_any (p B : Nat) (v : Value) (l : List Pr) (w : World) (h : Bk w B p v l) :
    Calls Tryz.prog 100 #[(Value.pointer (some ⟨p, 0, none⟩))] w fun e w' => ∃ v', e = .returned v' ∧ w'.ownsRow w.heap.size 43 2 v' l.length (flatR l) ∧ Below w.heap.size w w' := by
  have h1 : Below w.heap.size w (w.alloc (.cells #[.slice none 0 0] 42)) := (Below.refl _ w).alloc (Nat.le_refl _) _
  have hc1 : (w.alloc (.cells #[.slice none 0 0] 42)).heap[w.heap.size]? = some (.cells #[.slice none 0 0] 42 (0, 0)) := by
    show (w.heap.push _)[w.heap.size]? = _
    simp
  have hg : (w.alloc (.cells #[.slice none 0 0] 42)).heap.size = w.heap.size + 1 := by simp
  have hk1 := h2_of h1 h
  have hplt := lt_of_block h.cells
  have hrow : ∀ g, v.ownBlock = some g → g < w.heap.size := fun g hg => (h.row.lt g hg).2
  have hle := h.rise.le
  have HF1 := Lib.hid h1
  have HC1 := Lib.hid hc1
  have HG := Lib.hid hg
  have HK1 := Lib.hid hk1
  have HLN := Lib.hid (bk_len p B v l _ hk1)
  have HROW := Lib.hid hrow
  clear h h1 hc1 hg hk1 hrow
  go_enter Tryz.func100, Tryz.ntmps100
  go_upto_region 2 with (fail)
  generalize w.alloc (.cells #[.slice none 0 0] 42) = w1 at *
  rcases Nat.eq_zero_or_pos l.length with h0 | h0
  · have d0 : decide ((0 : Int) < (l.length : Int)) = false := by rw [decide_eq_false_iff_not]; omega
    have cc := cellOf2 (o := 0) HC1.out rfl
    go_wp2_with fail
    (with_reducible refine HLN.out.mono ?_)
    rintro e w2 ⟨rfl, rfl⟩
    go_wp2_with fail
    go_ret
    obtain rfl := List.length_eq_zero_iff.1 h0
    exact ⟨_, rfl, World.ownsRow_nil _ _ _ _, HF1.out⟩
  · have d0 : decide ((0 : Int) < (l.length : Int)) = true := by rw [decide_eq_true_eq]; omega
    have HFM := Lib.hid (from_any (fun i w2 U => ∃ u, AllS w2 w.heap.size (w1.heap.size + 1) u (l.take i) ∧ U = AllU w.heap.size u) (fun _ => False) (fun k => k = w.heap.size) 147 #[(Value.pointer (some ⟨w.heap.size, 0, none⟩))] allB_enter B p v l 0 w1 HK1.out (by omega) (by omega)
      ⟨_, _, ⟨HC1.out, World.ownsRow_nil _ _ _ _, by have := HG.out; omega⟩, rfl⟩
      (fun i w2 w3 U => by
        rintro ⟨u, hu, rfl⟩ hf
        refine ⟨u, hu.keep hf (fun k hk e => ?_), rfl⟩
        have := HG.out
        rcases hk with rfl | hk
        · omega
        · have := (hu.row.lt k hk).1; omega)
      (fun i w2 U hw => by
        rintro ⟨u, hu, rfl⟩ k hk
        have := HG.out
        rcases hk with rfl | hk
        · exact ⟨lt_of_block hu.cell, by omega, by omega, fun g hg => by have := HROW.out g hg; omega, fun _ => rfl⟩
        · have h3 := hu.row.lt k hk
          exact ⟨h3.2, by omega, by omega, fun g hg => by have := HROW.out g hg; omega, fun _ => by omega⟩)
      (fun i hi w2 U hw => by
        rintro ⟨u, hu, rfl⟩
        refine (all1_any i l[i] w.heap.size _ u (l.take i) w2 hu (by omega) (by rw [List.length_take]; omega)).mono ?_
        rintro e w3 ⟨hf, rfl, u2, hu2, -⟩
        rw [List.take_append_getElem hi] at hu2
        exact ⟨hf, .inl ⟨rfl, _, u2, hu2, rfl⟩⟩))
    rw [show ((0 : Nat) : Int) = 0 from rfl] at HFM
    go_wp2_with fail
    (with_reducible refine HLN.out.mono ?_)
    rintro e w2 ⟨rfl, rfl⟩
    go_wp2_with fail
    (with_reducible refine HFM.out.mono ?_)
    rintro e w3 ⟨rfl, hf3, ⟨U, u, hu, -⟩ | ⟨-, hF, -⟩⟩
    · rw [List.take_length] at hu
      have cc := cellOf2 (o := 0) hu.cell rfl
      have HS := Lib.hid hu
      have HF3 := Lib.hid hf3
      obtain ⟨ao, cp, hv⟩ := own_form hu.row
      subst hv
      clear hu hf3
      go_wp2_with fail
      go_ret
      have := HG.out
      exact ⟨_, rfl, own_base HS.out.row (by omega), HF1.out.trans (HF3.out.below (by omega) (fun k _ e => by omega))⟩
    · exact hF.elim
end Go.Proofs.YtdbfaknpfepnfaaGreatDoor

/-
  The walk of the block law's same.
-/
namespace Go.Proofs.YtdbfaknpfepnfaaGreatDoor
open Go.RowKit CodecP

end Go.Proofs.YtdbfaknpfepnfaaGreatDoor

/-
  What the claims of this seat share.
-/
namespace Go.Proofs.YtdbfaknpfepnfaaGreatDoor
open Go.ChangeShapes Go.WideShapes Go.ChangeAt Go.RowKit Go.ChangeMaps

set_option maxRecDepth 100000 in
theorem own : ownKnob Tryz.prog.godebug = none := by kernel_rfl
set_option maxRecDepth 100000 in
theorem laidOut : laidOutB Tryz.prog = true := by kernel_rfl
end Go.Proofs.YtdbfaknpfepnfaaGreatDoor

/-
  A slice of structs that came in, opened to cells.
-/
namespace Go.Proofs.YtdbfaknpfepnfaaGreatDoor
open Go.ChangeShapes Go.WideShapes Go.Deep
section
variable {H : Type} {enc : TypeId × Value → H} {P : Program} {w : World} {base : Nat} {spare : Nat → Bool} {held : Bool}
set_option maxRecDepth 100000 in
theorem open_slice_fields {t e : TypeId} {fs : Array Field} {fuel : Nat} {cs : List Value} {x : DataW H × List MemPlace} (ht : P.underlying t = some (.slice e)) (he : P.underlying e = some (.struct fs))
    (hone : oneCellFields P fs = true) (hC : P.cellsOf e = fs.size) (h : DataW.trod enc P w base spare held fuel t cs = some x) :
    (cs = [.slice none 0 0] ∧ x = (.nil, [])) ∨
    ∃ (a : Addr) (len cap m : Nat) (D : Nat → DataW H) (Pl : Nat → List MemPlace), cs = [.slice (some a) len cap] ∧ base ≤ a.block ∧ len ≤ cap ∧ cap ≤ maxLen ∧ m = (if spare a.block then cap else len) ∧
      x = (.slice ((List.range len).map D) ((List.range (m - len)).map fun j => D (len + j)), MemPlace.row a (m * fs.size) ++ (List.range m).flatMap Pl) ∧
      ∀ i, i < m → ∃ (ys : List (DataW H × List MemPlace)) (n : Nat), D i = .agg (ys.map (·.1)) ∧ Pl i = ys.flatMap (·.2) ∧ ys.length = fs.size ∧
        ∀ (j : Nat) (f : Field), fs[j]? = some f → ∃ (v : Value) (y : DataW H × List MemPlace), w.cell? (a.add (i * fs.size + j)) = some v ∧ ys[j]? = some y ∧ DataW.trod enc P w base spare held n f.type [v] = some y := by
  rcases open_slice ht h with h0 | ⟨a, len, cap, m, n, D, Pl, hcs, hb, hl, hm, hmm, hx, hi⟩
  · exact .inl h0
  · refine .inr ⟨a, len, cap, m, D, Pl, hcs, hb, hl, hm, hmm, by rw [hC] at hx; exact hx, fun i him => ?_⟩
    obtain ⟨cs', hc, ht'⟩ := hi i him
    rw [hC] at hc
    obtain ⟨ys, n', hn', hy, hlen, hyl, hf⟩ := DataW.trod_struct he ht'
    obtain ⟨_, hcl, hat⟩ := World.cells?_some hc
    simp only [Prod.mk.injEq] at hy
    refine ⟨ys, n', hy.1, hy.2, hyl, fun j f hj => ?_⟩
    obtain ⟨ho, hk⟩ := hone_of hone j f hj
    have hjl : j < fs.size := (Array.getElem?_eq_some_iff.1 hj).1
    have hcell := hat j hjl
    have hv : cs'[j]? = some (cs'[j]'(by omega)) := List.getElem?_eq_getElem (by omega)
    have h1 := hf j f hj
    rw [ho, hk] at h1
    have hone' : (cs'.drop j).take 1 = [cs'[j]'(by omega)] := by
      rw [List.drop_eq_getElem_cons (by omega)]
      rfl
    rw [hone'] at h1
    have hys : ys[j]? = some (ys[j]'(by omega)) := List.getElem?_eq_getElem (by omega)
    refine ⟨_, _, ?_, hys, h1.trans hys⟩
    rw [← Go.Deep.add_add, hcell, hv]
end
end Go.Proofs.YtdbfaknpfepnfaaGreatDoor

/-
  A list of pairs that came in, opened.
-/
namespace Go.Proofs.YtdbfaknpfepnfaaGreatDoor
open Go.ChangeShapes Go.WideShapes Go.ChangeAt Go.RowKit Go.ChangeMaps Go.Deep

set_option maxRecDepth 100000 in
theorem lt_cell2 {w : World} {b o : Nat} {v : Value} (h : w.cell? ⟨b, o, none⟩ = some v) : b < w.heap.size := by
  unfold World.cell? at h
  rcases Nat.lt_or_ge b w.heap.size with h1 | h1
  · exact h1
  · rw [Array.getElem?_eq_none h1] at h; simp at h
set_option maxRecDepth 100000 in
theorem prs_of {H : Type} {enc : TypeId × Value → H} {W : World} {r : Reach} {b0 : Nat} {v : Value} {d : DataW H} {ps : List MemPlace}
    (hval : Value.okWide Tryz.prog W r b0 36 v) (h : DataW.Trod enc Tryz.prog W 0 (fun _ => true) true 36 v d ps) : ∃ L, PrsIn W v L := by
  obtain ⟨a0, len, cap, rfl⟩ := okWide_slice Tryz.underlying36 hval
  obtain ⟨fuel, hf⟩ := h
  rcases open_slice_fields Tryz.underlying36 Tryz.underlying40 (by kernel_rfl) (by kernel_rfl) hf with ⟨hcs, _⟩ | ⟨a, len', cap', m, D, Pl, hcs, _, hl, hm, hmm, _, hi⟩
  · simp [Value.cells] at hcs
    obtain ⟨rfl, rfl, rfl⟩ := hcs
    exact ⟨[], ⟨none, 0, rfl, rfl, fun _ => rfl, Nat.le_refl _, Nat.zero_le _, fun h => absurd h (by simp)⟩, by simp⟩
  · simp [Value.cells] at hcs
    obtain ⟨rfl, rfl, rfl⟩ := hcs
    rw [if_pos rfl] at hmm
    have hml : len ≤ m := by omega
    clear hmm
    have hcell : ∀ i, i < len → ∃ x : ByteArray × ByteArray, W.cell? (a.add (i * 2)) = some (.string x.1) ∧ W.cell? (a.add (i * 2 + 1)) = some (.string x.2) ∧ x.1.size ≤ maxLen ∧ x.2.size ≤ maxLen := by
      intro i hlt
      obtain ⟨ys, n, _, _, _, hf⟩ := hi i (by omega)
      obtain ⟨u0, y0, h0, _, k0⟩ := hf 0 _ rfl
      obtain ⟨u1, y1, h1, _, k1⟩ := hf 1 _ rfl
      obtain ⟨x0, e0, _, w0⟩ := DataW.trod_string Tryz.underlying9 k0
      obtain ⟨x1, e1, _, w1⟩ := DataW.trod_string Tryz.underlying9 k1
      simp only [List.cons.injEq, and_true] at e0 e1
      subst e0 e1
      exact ⟨(x0, x1), h0, h1, w0, w1⟩
    let F : Nat → ByteArray × ByteArray := fun i => if h : i < len then Classical.choose (hcell i h) else (⟨#[]⟩, ⟨#[]⟩)
    have hF : ∀ i, i < len → W.cell? (a.add (i * 2)) = some (.string (F i).1) ∧ W.cell? (a.add (i * 2 + 1)) = some (.string (F i).2) ∧ (F i).1.size ≤ maxLen ∧ (F i).2.size ≤ maxLen := by
      intro i h
      have := Classical.choose_spec (hcell i h)
      simp only [F, dif_pos h]
      exact this
    let L : List Pr := (List.range len).map fun i => (bl (F i).1, bl (F i).2)
    have hlen : L.length = len := by simp [L]
    have hget : ∀ i, ∀ hi : i < L.length, L[i] = (bl (F i).1, bl (F i).2) := by
      intro i hi
      simp [L]
    refine ⟨L, ⟨⟨some a, cap, by rw [hlen], by rw [flatR_length], (fun h => by cases h), by rw [hlen]; omega, by omega, fun hne => ?_⟩, fun x hx => ?_⟩⟩
    · rw [hlen] at hne
      obtain ⟨b, off, spot⟩ := a
      have hspot : spot = none := by simpa [Addr.add] using World.cell?_spot (hF 0 hne).1
      subst hspot
      refine ⟨b, off, rfl, lt_cell2 (by have := (hF 0 hne).1; rw [Go.WideShapes.add_plain] at this; exact this), fun j u hu => ?_⟩
      have hj := (List.getElem?_eq_some_iff.1 hu).1
      rw [flatR_length] at hj
      have hi2 : j / 2 < L.length := by omega
      have hgl := hget (j / 2) hi2
      obtain ⟨c0, c1, -⟩ := hF (j / 2) (by omega)
      rw [Go.WideShapes.add_plain] at c0 c1
      obtain ⟨g0, g1⟩ := flatR_get L (j / 2) hi2
      rw [hgl] at g0 g1
      simp only [str_bl] at g0 g1
      rcases Nat.mod_two_eq_zero_or_one j with e | e
      · rw [show j / 2 * 2 = j by omega] at c0 g0
        rw [g0] at hu; injection hu with hu; subst hu; exact c0
      · rw [show j / 2 * 2 + 1 = j by omega] at c1 g1
        rw [g1] at hu; injection hu with hu; subst hu; exact c1
    · obtain ⟨i, hi, rfl⟩ := List.mem_map.1 hx
      obtain ⟨-, -, h2, h3⟩ := hF i (by simpa using hi)
      exact ⟨by rw [bl_size]; exact h2, by rw [bl_size]; exact h3⟩
end Go.Proofs.YtdbfaknpfepnfaaGreatDoor

/-
  The walk of the law BlockBack.
-/
namespace Go.Proofs.YtdbfaknpfepnfaaGreatDoor
open Go.RowKit CodecP

set_option maxRecDepth 100000 in
theorem datF_inj : ∀ (a b : List Pr) (i : Nat) (last : List UInt8), (∀ p ∈ a, Okp p) → (∀ p ∈ b, Okp p) → last.length ≤ 80 → datF i last a = datF i last b → a = b
  | [], [], _, _, _, _, _, _ => rfl
  | [], p :: r, i, last, _, hb, hl, h => by
    have h1 := stepF_dat hb i last hl
    exfalso
    have h2 := congrArg List.length h
    have h3 := (hb p (by simp)).1
    have h4 := grp_pos (sameOf i last p.1)
    simp only [datF, ent, List.length_append, List.length_nil] at h2
    omega
  | p :: r, [], i, last, ha, _, hl, h => by
    exfalso
    have h2 := congrArg List.length h
    have h4 := grp_pos (sameOf i last p.1)
    simp only [datF, ent, List.length_append, List.length_nil] at h2
    omega
  | p :: r, q :: t, i, last, ha, hb, hl, h => by
    have hp := ha p (by simp)
    have hq := hb q (by simp)
    have st : ∀ (z : Pr) (y : List Pr), Okp z → stepF last (some (datF i last (z :: y))) = some (z, sameOf i last z.1, datF (i + 1) z.1 y) := fun z y hz => by
      rw [datF]
      refine stepF_ent _ _ _ _ (sameOf_le i last z.1).1 ?_ (by omega) (by have := hz.2.1; omega) hz.2.2
      unfold sameOf
      split
      · rfl
      · exact (cmn_take _ _).symm
    have e := st p r hp
    rw [h, st q t hq] at e
    simp only [Option.some.injEq, Prod.mk.injEq] at e
    obtain ⟨e1, -, e3⟩ := e
    subst e1
    rw [datF_inj r t (i + 1) q.1 (fun z hz => ha z (by simp [hz])) (fun z hz => hb z (by simp [hz])) hq.2.1 e3.symm]
set_option maxRecDepth 100000 in
/-- One block is of one list of pairs alone. -/
theorem blk_inj {a b : List Pr} (ha : Rise a) (hb : Rise b) (h : blk a = blk b) : a = b := by
  obtain ⟨-, -, a3, -⟩ := blk_tail a ha
  obtain ⟨-, -, b3, -⟩ := blk_tail b hb
  rw [h] at a3
  have e : dat a = dat b := by
    have e1 : (blk a).take (dat a).length = dat a := by unfold blk; rw [List.append_assoc, List.take_left' rfl]
    have e2 : (blk b).take (dat b).length = dat b := by unfold blk; rw [List.append_assoc, List.take_left' rfl]
    rw [← e1, ← e2, h, ← a3, ← b3]
  exact datF_inj a b 0 [] ha.ok hb.ok (Nat.zero_le _) e
set_option maxRecDepth 100000 in
/-- Of a block's bytes the block comes. -/
theorem open_blk (ps : List Pr) (w : World) (h : Rise ps) :
    Calls Tryz.prog 86 #[.string (str (blk ps))] w fun e w' => Below w.heap.size w w' ∧ ∃ p v, e = .returned (.tuple #[(Value.pointer (some ⟨p, 0, none⟩)), .int .i64 0]) ∧ Bk w' w.heap.size p v ps := by
  have hl := blk_len ps
  have hd := dat_len h.ok
  have hr := rst_len ps
  have hle := h.le
  refine (open_any (str (blk ps)) w (by rw [show (str (blk ps)).size = (blk ps).length by simp [str, ByteArray.size]]; omega)).mono ?_
  rintro e w' ⟨hb, ⟨-, hno⟩ | ⟨qs, p, v, he, rfl, hk⟩⟩
  · exact absurd (bl_str _) (hno ps h)
  · rw [bl_str] at he
    obtain rfl := blk_inj h hk.rise he
    exact ⟨hb, p, v, rfl, hk⟩
end Go.Proofs.YtdbfaknpfepnfaaGreatDoor

/-
  The walk of a builder made anew of a block.
-/
namespace Go.Proofs.YtdbfaknpfepnfaaGreatDoor
open Go.RowKit CodecP CrcP FrameP

set_option maxRecDepth 100000 in
theorem Bd.typesB {w : World} {p : Nat} {S : Nat → Prop} {ps : List Pr} (h : Bd w p S ps) {k : Nat} (hk : S k) : ∃ cs t, w.heap[k]? = some (.cells cs t (0, 0)) ∧ t ≠ 43 := by
  obtain ⟨vw, vr, h1, h2, h3, h4⟩ := h.ex
  rcases (h4 k).1 hk with rfl | hk | hk
  · exact ⟨_, _, h1, by decide⟩
  · obtain ⟨cs, hc⟩ := own_type h2 hk
    exact ⟨cs, _, hc, by decide⟩
  · obtain ⟨cs, hc⟩ := own_type h3 hk
    exact ⟨cs, _, hc, by decide⟩
/-- A builder and pairs that lie beside it. -/
structure BP (w0 w : World) (p : Nat) (S : Nat → Prop) (ps : List Pr) (v : Value) (l : List Pr) : Prop where
  own : BOwn w0 w p S ps
  row : w.ownsRow w0.heap.size 43 2 v l.length (flatR l)
set_option maxRecDepth 100000 in
theorem BP.apart {w0 w : World} {p : Nat} {S : Nat → Prop} {ps : List Pr} {v : Value} {l : List Pr} (h : BP w0 w p S ps v l) {k : Nat} (hk : v.ownBlock = some k) : ¬ S k := fun hS => by
  obtain ⟨cs, t, h1, h2⟩ := h.own.bd.typesB hS
  obtain ⟨cs2, h3⟩ := own_type h.row hk
  exact type_ne h1 h3 h2 rfl
set_option maxRecDepth 100000 in
theorem BP.below {w0 w w' : World} {p : Nat} {S : Nat → Prop} {ps : List Pr} {v : Value} {l : List Pr} (h : BP w0 w p S ps v l) (hb : Below w.heap.size w w') : BP w0 w' p S ps v l := ⟨h.own.below hb, owns_of_block h.row (fun k hk => hb.block k (h.row.lt k hk).2)⟩
set_option maxRecDepth 100000 in
theorem BP.add {w0 w w' : World} {p : Nat} {S S' : Nat → Prop} {ps ps' : List Pr} {v : Value} {l : List Pr} (h : BP w0 w p S ps v l) (hb : Bd w' p S' ps') (hf : Fr S w w') (hs : ∀ k, S' k → S k ∨ w.heap.size ≤ k) : BP w0 w' p S' ps' v l :=
  ⟨h.own.add hb hf hs, owns_of_block h.row (fun k hk => hf.block k (h.row.lt k hk).2 (h.apart hk))⟩
set_option maxRecDepth 100000 in
theorem rise_take {l : List Pr} (h : Rise l) (i : Nat) (hi : i < l.length) : Okp l[i] ∧ lastK (l.take i) < l[i].1 := by
  have hm : l.take (i + 1) = l.take i ++ [l[i]] := (List.take_append_getElem hi).symm
  have := Rise.init (hm ▸ rise_sub h (List.take_sublist (i + 1) l) : Rise (l.take i ++ [l[i]]))
  exact ⟨this.2.1, this.2.2.1⟩
set_option maxRecDepth 100000 in
set_option maxHeartbeats 2000000 in
theorem again_any (ip : List Pr) (w : World) (hr : Rise ip) :
    Calls Tryz.prog 77 #[.string (str (blk ip))] w fun e w' => ∃ p S, e = .returned ((Value.pointer (some ⟨p, 0, none⟩))) ∧ Bd w' p S ip ∧ (∀ k, S k → w.heap.size ≤ k) ∧ Below w.heap.size w w' := by
  have HO := Lib.hid (BOwn.new (Below.refl w.heap.size w))
  have hle := hr.le
  have HR := Lib.hid hr
  have HOP := Lib.hid (fun W => open_blk ip W hr)
  clear hr
  go_enter Tryz.func77, Tryz.ntmps77
  go_upto_region 2 with (fail)
  generalize w.alloc (.cells #[.slice none 0 0, .string ⟨#[]⟩, .int .i64 0, .slice none 0 0] 112) = w1 at *
  generalize w.heap.size = pb at *
  go_wp2_with fail
  (with_reducible refine (HOP.out _).mono ?_)
  rintro e w2 ⟨hb2, p2, v2, rfl, hbk⟩
  have HAL := Lib.hid (all_any p2 _ v2 ip w2 hbk)
  have HO2 := Lib.hid (HO.out.below hb2)
  clear hb2 hbk HO
  go_wp2_with fail
  (with_reducible refine HAL.out.mono ?_)
  rintro e w3 ⟨v3, rfl, hrow, hb3⟩
  have hsz2 := HO2.out.bel.size
  have HB3 := Lib.hid (show BP w w3 pb (fun k => k = pb) [] v3 ip from ⟨HO2.out.below hb3, own_base hrow hsz2⟩)
  obtain ⟨ao, cp, hv3⟩ := own_form hrow
  subst hv3
  clear hrow hb3 HO2 HAL hsz2
  go_wp2_with fail
  go_loopg [18] ip.length (fun g iv wr => ∃ (i : Nat) (S : Nat → Prop), i + g = ip.length ∧ iv = .int .i64 i ∧ BP w wr pb S (ip.take i) (.slice ao ip.length cp) ip)
  case atStart => exact ⟨0, _, by omega, rfl, HB3.out⟩
  case round =>
    clear HB3
    obtain ⟨i, S, hig, rfl, hbp⟩ := hrel
    have HBP := Lib.hid hbp
    by_cases hlt : i < ip.length
    · obtain ⟨b, cap, hv, _, hb, hc, hm, hcell⟩ := own_pos hbp.row (by omega)
      injection hv with hv _ hv2
      subst hv hv2
      unfold maxLen at hm
      obtain ⟨f1, f2⟩ := flatR_get ip i hlt
      have c1 := hcell _ _ f1
      have c2 := hcell _ _ f2
      have d9 : decide ((i : Int) < (ip.length : Int)) = true := by rw [decide_eq_true_eq]; omega
      have hil : (i : Int) < (ip.length : Int) := by omega
      have wi : IntKind.i64.wrap ((i : Int) + 1) = (i : Int) + 1 := IntWalk.i64_in _ (by omega)
      obtain ⟨hok, hlk⟩ := rise_take HR.out i hlt
      obtain ⟨q, hq⟩ : ∃ q, q = ip[i] := ⟨_, rfl⟩
      have htk : ip.take (i + 1) = ip.take i ++ [q] := by rw [hq]; exact (List.take_append_getElem hlt).symm
      have HTK := Lib.hid htk
      rw [← hq] at c1 c2 hok hlk
      have HADD := Lib.hid (fun (W : World) (hW : Below wr.heap.size wr W) => add_ok pb S (ip.take i) (str q.1) (str q.2) W (hbp.own.bd.below hW) (by rw [bl_str, bl_str]; exact hok) (by rw [bl_str]; exact hlk) (by rw [List.length_take]; omega))
      clear hbp hcell f1 f2 hok hlk hq htk hb
      go_upto_region 6 with (fail)
      have hba : Below wr.heap.size wr (wr.alloc (.cells #[.string (str q.1), .string (str q.2)] 43)) := (Below.refl _ wr).alloc (Nat.le_refl _) _
      have hpa : (wr.alloc (.cells #[.string (str q.1), .string (str q.2)] 43)).heap[wr.heap.size]? = some (.cells #[.string (str q.1), .string (str q.2)] 43 (0, 0)) := by
        show (wr.heap.push _)[wr.heap.size]? = _
        simp
      have HAD := Lib.hid (HADD.out _ hba)
      unfold AddP at HAD
      rw [bl_str, bl_str] at HAD
      have HBA := Lib.hid (HBP.out.below hba)
      have k0 := cellOf2 (o := 0) hpa rfl
      have k1 := cellOf2 (o := 1) hpa rfl
      clear hba hpa HADD c1 c2
      generalize wr.alloc (.cells #[.string (str q.1), .string (str q.2)] 43) = wa at *
      go_wp2_with fail
      (with_reducible refine HAD.out.mono ?_)
      rintro e w5 ⟨rfl, S5, hb5, hf5, hs5⟩
      have HB5 := Lib.hid (HBA.out.add hb5 hf5 hs5)
      clear hb5 hf5 hs5
      go_wp2_with fail
      go_roundg (ip.length - (i + 1))
      case measure => omega
      case rel => exact ⟨i + 1, S5, by omega, by go_num, by rw [HTK.out]; exact HB5.out⟩
    · have d9 : decide ((i : Int) < (ip.length : Int)) = false := by rw [decide_eq_false_iff_not]; omega
      have htk : ip.take i = ip := List.take_of_length_le (by omega)
      rw [htk] at hbp
      have HFIN := Lib.hid hbp.own
      clear hbp htk
      go_wp2_with fail
      go_ret
      exact ⟨_, S, rfl, HFIN.out.bd, HFIN.out.own, HFIN.out.bel⟩
end Go.Proofs.YtdbfaknpfepnfaaGreatDoor

/-
  A table's bytes in plain words; what stands while a table is finished.
-/
namespace Go.Proofs.YtdbfaknpfepnfaaGreatDoor
open Go.RowKit CodecP CrcP FrameP

/-- The bytes of a table, of its blocks and its keys. -/
def tabF (ks : List (List UInt8)) : List UInt8 := frame (BloomP.make (ks.map frontK))
def tabE (s f n : Nat) : List UInt8 := frame (fixed 8 s ++ fixed 8 (s + f) ++ fixed 8 n)
def tabS (bs : List (List Pr)) (ks : List (List UInt8)) : List UInt8 := outB bs ++ tabF ks ++ frm (idx bs) ++ tabE (outB bs).length (tabF ks).length ks.length
set_option maxRecDepth 100000 in
theorem make_len (ks : List (List UInt8)) (h : ks.length ≤ 200) : (BloomP.make ks).length ≤ 300 := by
  unfold BloomP.make
  rw [BloomP.pack_length]
  unfold BloomP.bitsOf
  omega
set_option maxRecDepth 100000 in
theorem tabF_len (ks : List (List UInt8)) (h : ks.length ≤ 200) : (tabF ks).length ≤ 312 := by
  unfold tabF
  rw [frame_length]
  have := make_len (ks.map frontK) (by simpa using h)
  omega
set_option maxRecDepth 100000 in
theorem tabE_len (s f n : Nat) : (tabE s f n).length = 36 := by
  unfold tabE
  rw [frame_length]
  simp only [List.length_append, fixed_length]
section
variable {w0 W W' : World} {p sz nb g gm : Nat} {cl : List (List Pr)} {cur : List Pr} {ks : List (List UInt8)} {x : TbS} {a v : Value} {l : List UInt8} {mc : Array Value}
/-- While a table is finished: its builder; the text's builder at g; the result's cells at gm. -/
structure FinS (w0 W : World) (p sz : Nat) (cl : List (List Pr)) (cur : List Pr) (ks : List (List UInt8)) (nb : Nat) (x : TbS) (g : Nat) (a v : Value) (l : List UInt8) (gm : Nat) (mc : Array Value) : Prop where
  tb : Tb W p sz cl cur ks nb true x
  lt0 : ∀ k, x.S p k → k < w0.heap.size
  fr : Fr (x.S p) w0 W
  ob : W.heap[g]? = some (.cells #[a, v] 115 (0, 0))
  av : a = .pointer none ∨ a = .pointer (some ⟨g, 0, none⟩)
  own : OwnE W v l
  base : w0.heap.size ≤ g
  row : ∀ k, v.ownBlock = some k → w0.heap.size ≤ k ∧ k ≠ g ∧ k ≠ gm
  mt : W.heap[gm]? = some (.cells mc 63 (0, 0))
  gmg : w0.heap.size ≤ gm ∧ gm ≠ g
set_option maxRecDepth 100000 in
theorem FinS.below (h : FinS w0 W p sz cl cur ks nb x g a v l gm mc) (hb : Below W.heap.size W W') : FinS w0 W' p sz cl cur ks nb x g a v l gm mc :=
  ⟨h.tb.below hb, h.lt0, h.fr.trans (Fr.of_below (x.S p) hb) (fun _ _ h => h), (hb.block g (lt_of_block h.ob)).trans h.ob, h.av, ⟨owns_of_block h.own.1 (fun k hk => hb.block k (h.own.1.lt k hk).2), h.own.2⟩, h.base, h.row, (hb.block gm (lt_of_block h.mt)).trans h.mt, h.gmg⟩
set_option maxRecDepth 100000 in
theorem FinS.write (h : FinS w0 W p sz cl cur ks nb x g a v l gm mc) (s : List UInt8) (hl : l.length + s.length ≤ 1099511627776) :
    Calls Tryz.prog 75 #[(Value.pointer (some ⟨g, 0, none⟩)), .string (str s)] W fun e w' => e = .returned (.tuple #[.int .i64 s.length, .nilIface]) ∧ SbP g 0 #[a, v] 115 v (l ++ s) W w' := by
  have := sbWrite_any (o := 0) (str s) h.ob rfl rfl h.av h.own (fun e => (h.row g e).2.1 rfl) (by show liesAt Tryz.prog Tryz.prog.depth 115 (2 / Tryz.prog.cellsOf 115) 0 115 1 = true; kernel_rfl) (by rw [str_size]; exact hl)
  rw [bl_str, str_size] at this
  exact this
set_option maxRecDepth 100000 in
theorem FinS.wrote {l' : List UInt8} (h : FinS w0 W p sz cl cur ks nb x g a v l gm mc) (hP : SbP g 0 #[a, v] 115 v l' W W') : ∃ v', FinS w0 W' p sz cl cur ks nb x g ((Value.pointer (some ⟨g, 0, none⟩))) v' l' gm mc ∧ Fr (fun k => k = g ∨ v.ownBlock = some k) W W' ∧ (v'.ownBlock = v.ownBlock ∨ ∃ k, v'.ownBlock = some k ∧ W.heap.size ≤ k) := by
  obtain ⟨v', h1, h2, h3, h4⟩ := hP
  have hno : ∀ k, k < w0.heap.size → ¬ (k = g ∨ v.ownBlock = some k) := fun k hk e => by
    rcases e with e | e
    · have := h.base; omega
    · have := (h.row k e).1; omega
  have hsz := h.fr.size
  have hgl := lt_of_block h.ob
  have hml := lt_of_block h.mt
  refine ⟨v', ⟨h.tb.keep (fun k hk => h4.block k (by have := h.lt0 k hk; omega) (hno k (h.lt0 k hk))), h.lt0, h.fr.trans h4 (fun n hn e => (hno n hn e).elim), h1, .inr rfl, h2, h.base, fun k hk => ?_, (h4.block gm hml (fun e => e.elim h.gmg.2 (fun e => (h.row gm e).2.2 rfl))).trans h.mt, h.gmg⟩, h4, h3⟩
  rcases h3 with e | ⟨j, e, hj⟩
  · exact h.row k (e ▸ hk)
  · rw [e] at hk
    injection hk with hk
    subst hk
    exact ⟨by omega, by omega, by omega⟩
/-- The index anew, beside it. -/
structure FinI (w0 W : World) (g gm : Nat) (v : Value) (pj : Nat) (Sj : Nat → Prop) (ip : List Pr) : Prop where
  bd : Bd W pj Sj ip
  ap : ∀ k, Sj k → w0.heap.size ≤ k ∧ k ≠ g ∧ k ≠ gm ∧ v.ownBlock ≠ some k
set_option maxRecDepth 100000 in
theorem FinI.below {pj : Nat} {Sj : Nat → Prop} {ip : List Pr} (h : FinI w0 W g gm v pj Sj ip) (hb : Below W.heap.size W W') : FinI w0 W' g gm v pj Sj ip := ⟨h.bd.below hb, h.ap⟩
set_option maxRecDepth 100000 in
theorem FinI.wrote {pj : Nat} {Sj : Nat → Prop} {ip : List Pr} {v' : Value} (h : FinI w0 W g gm v pj Sj ip) (hf : Fr (fun k => k = g ∨ v.ownBlock = some k) W W') (hv : v'.ownBlock = v.ownBlock ∨ ∃ k, v'.ownBlock = some k ∧ W.heap.size ≤ k) : FinI w0 W' g gm v' pj Sj ip :=
  ⟨h.bd.keep (fun k hk => hf.block k (h.bd.lt k hk) (fun e => e.elim (h.ap k hk).2.1 (h.ap k hk).2.2.2)), fun k hk => ⟨(h.ap k hk).1, (h.ap k hk).2.1, (h.ap k hk).2.2.1, fun e => by
    rcases hv with e2 | ⟨j, e2, hj⟩
    · exact (h.ap k hk).2.2.2 (e2 ▸ e)
    · rw [e2] at e
      injection e with e
      have := h.bd.lt k hk
      omega⟩⟩
end
end Go.Proofs.YtdbfaknpfepnfaaGreatDoor
